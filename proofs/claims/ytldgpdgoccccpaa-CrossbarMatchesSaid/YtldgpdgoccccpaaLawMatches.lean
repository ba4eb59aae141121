/-
  The walk of the law CrossbarMatches.
-/
import Derived.Test.YtldgpdgoccccpaaBarRefM
import Derived.Test.YtldgpdgoccccpaaLawFills
namespace Go.Proofs.Ytldgpdgoccccpaa
open Go.RowKit
set_option linter.unusedVariables false

theorem slG {w : World} {b n : Nat} {g : Nat → Nat} (h : Fun w b 3 n (nF g)) : SlI w (some ⟨b, 0, none⟩) (gL n g) := by
  refine Blk.sl (T := 3) (f := Value.int .i64) ?_
  have e : (gL n g).map (Value.int .i64) = (List.range n).map (nF g) := by rw [gL, List.map_map]; rfl
  rw [e]; exact h
def MsRel (W : World) (cb rb gb ab n l : Nat) (i : Value) (w : World) : Prop := ∃ (k : Nat) (p : (Nat → Nat) × (Nat → Nat)), k ≤ l ∧ i = .int .i64 k ∧ Sgl W cb n p w ∧ RefAt w rb gb ab n p.1 p.2
def MsCut (W : World) (cb n : Nat) (v : Value) (w : World) : Prop := ∃ rb gb ab, v = .pointer (some ⟨rb, 0, none⟩) ∧ Sgl W cb n (fun _ => 0, fun _ => 0) w ∧ RefAt w rb gb ab n (fun _ => 0) (fun _ => 0) ∧ W.heap.size ≤ rb ∧ W.heap.size ≤ gb ∧ W.heap.size ≤ ab ∧ (cb ≠ rb ∧ cb ≠ gb ∧ cb ≠ ab)

theorem al3 (w : World) (o1 o2 o3 : Obj) : (((w.alloc o1).alloc o2).alloc o3).drew.heap[w.heap.size]? = some o1 ∧ (((w.alloc o1).alloc o2).alloc o3).drew.heap[w.heap.size + 1]? = some o2 ∧ (((w.alloc o1).alloc o2).alloc o3).drew.heap[w.heap.size + 1 + 1]? = some o3 ∧ Below w.heap.size w (((w.alloc o1).alloc o2).alloc o3).drew := by
  have h1 : (((w.alloc o1).alloc o2).alloc o3).heap[w.heap.size]? = some o1 := by
    rw [Below.heap_alloc _ _ _ (by simp; omega), Below.heap_alloc _ _ _ (by simp)]; exact heap_alloc_new w o1
  have h2 : (((w.alloc o1).alloc o2).alloc o3).heap[w.heap.size + 1]? = some o2 := by
    rw [Below.heap_alloc _ _ _ (by simp)]
    have := heap_alloc_new (w.alloc o1) o2
    rw [World.size_alloc] at this; exact this
  have h3 : (((w.alloc o1).alloc o2).alloc o3).heap[w.heap.size + 1 + 1]? = some o3 := by
    have := heap_alloc_new ((w.alloc o1).alloc o2) o3
    rw [World.size_alloc, World.size_alloc] at this; exact this
  exact ⟨h1, h2, h3, ((((Below.refl _ w).alloc (Nat.le_refl _) _).alloc (by simp) _).alloc (by simp; omega) _).trans ((Qt.refl _).drew.below _)⟩
theorem ms_any {W w2 w' : World} {cb n rb gb ab : Nat} {LI : List Value} (S3 : Sgl W cb n (fun _ => 0, fun _ => 0) w2) (CI : LI = (List.range n).map (nF fun _ => 0)) (hc : cb < w2.heap.size)
    (hB : Below w2.heap.size w2 w') (hr : w'.heap[rb]? = some (.cells #[.slice (some ⟨gb, 0, none⟩) n n, .slice (some ⟨ab, 0, none⟩) n n] 47)) (hg : w'.heap[gb]? = some (.cells LI.toArray 3)) (ha : w'.heap[ab]? = some (.cells LI.toArray 3))
    (l1 : w2.heap.size ≤ rb) (l2 : w2.heap.size ≤ gb) (l3 : w2.heap.size ≤ ab) (d1 : rb ≠ gb) (d2 : rb ≠ ab) (d3 : gb ≠ ab) : MsCut W cb n (.pointer (some ⟨rb, 0, none⟩)) w' := by
  have hs := S3.bel.size
  exact ⟨rb, gb, ab, rfl, S3.below hB, ⟨hr, by rw [CI] at hg; exact hg, by rw [CI] at ha; exact ha, d1, d2, d3⟩, by omega, by omega, by omega, by omega, by omega, by omega⟩

set_option maxHeartbeats 16000000 in
set_option maxRecDepth 100000 in
theorem crossbarMatches_walk (W : World) (z : Int) (wz : IntOk .i64 z) (a1 : Option Addr) (c1 : Nat) (x0 : List (RowOf (RowOf Bool))) (s0 : Sl RowOf.val W a1 x0) (g0 : ∀ r ∈ x0, Sl RowOf.val W (RowOf.a r) r.xs ∧ (∀ l ∈ r.xs, Sl Value.bool W (RowOf.a l) l.xs ∧ (∀ y ∈ l.xs, True) ∧ l.xs.length ≤ maxLen) ∧ r.xs.length ≤ maxLen) (m0 : x0.length ≤ maxLen)
    (a2 : Option Addr) (c2 : Nat) (x2 : List Int) (s2 : Sl (Value.int .i64) W a2 x2) (g2 : ∀ y ∈ x2, IntOk .i64 y) (m2 : x2.length ≤ maxLen) :
    Calls Try.prog 6 #[.int .i64 z, .slice a1 x0.length c1, .slice a2 x2.length c2] W fun e W' => e = .returned (.bool true) ∧ Below W.heap.size W W' := by
  obtain ⟨rqs, lns⟩ := reqs_of s0 g0
  have RQS := Lib.hid rqs; have LNS := Lib.hid lns; have M0 := Lib.hid m0; have S2 := Lib.hid s2
  have HAW := Lib.hid (awake_ok W)
  unfold maxLen at m0 m2
  clear s0 g0 rqs lns wz g2 s2
  cases hgs : grsB x0 with
  | true =>
    have HGS := Lib.hid hgs; clear hgs
    go_enter Try.func6, Try.ntmps6
    go_wp2_with fail
    go_fit HAW.out
    rintro e w1 ⟨rfl, hb⟩
    have B1 := Lib.hid hb; clear hb
    have G := greats_any w1 a1 c1 x0 (RQS.out.below B1.out) M0.out LNS.out
    rw [HGS.out] at G
    have G1 := Lib.hid G; clear G
    go_wp2_with fail
    go_fit G1.out
    rintro e w2 ⟨rfl, rfl⟩
    go_wp2_with fail
    go_ret
    exact ⟨rfl, B1.out⟩
  | false =>
    have HGS := Lib.hid hgs
    have l20 := (grsB_false hgs).1
    clear hgs
    by_cases h20 : (20 : Int) < x2.length
    · go_enter Try.func6, Try.ntmps6
      go_wp2_with fail
      go_fit HAW.out
      rintro e w1 ⟨rfl, hb⟩
      have B1 := Lib.hid hb; clear hb
      have G := greats_any w1 a1 c1 x0 (RQS.out.below B1.out) M0.out LNS.out
      rw [HGS.out] at G
      have G1 := Lib.hid G; clear G
      go_wp2_with fail
      go_fit G1.out
      rintro e w2 ⟨rfl, rfl⟩
      go_wp2_with fail
      go_ret
      exact ⟨rfl, B1.out⟩
    · by_cases hbad : z < 1 ∨ 8 < z
      · go_enter Try.func6, Try.ntmps6
        go_wp2_with fail
        go_fit HAW.out
        rintro e w1 ⟨rfl, hb⟩
        have B1 := Lib.hid hb; clear hb
        have G := greats_any w1 a1 c1 x0 (RQS.out.below B1.out) M0.out LNS.out
        rw [HGS.out] at G
        have G1 := Lib.hid G; clear G
        have NB := Lib.hid (barnew_bad z w1 hbad)
        go_wp2_with fail
        go_fit G1.out
        rintro e w2 ⟨rfl, rfl⟩
        go_wp2_with fail
        go_fit NB.out
        rintro e w2 ⟨rfl, rfl⟩
        rcases hbad with h1 | h1
        · go_wp2_with fail
          go_ret
          exact ⟨rfl, B1.out⟩
        · have h2 : ¬ z < 1 := by omega
          go_wp2_with fail
          go_ret
          exact ⟨rfl, B1.out⟩
      · obtain ⟨n, rfl⟩ := Int.eq_ofNat_of_zero_le (show 0 ≤ z by omega)
        have hn1 : 1 ≤ n := by omega
        have hn8 : n ≤ 8 := by omega
        have hi1 : ¬ (n : Int) < 1 := by omega
        have hi8 : ¬ (8 : Int) < (n : Int) := by omega
        clear hbad
        have RGZ : Hid (Bar.Rg n (fun _ => 0, fun _ => 0)) := ⟨fun k hk => by show 0 < _; omega, fun k hk => by show 0 < _; omega⟩
        have hmi := fun w => make_ints w n (by omega)
        have CI : Hid ((List.replicate n (0 : Int)).map (Value.int .i64) = (List.range n).map (nF fun _ => 0)) := fun_const _ _ _
        generalize hLi : (List.replicate n (0 : Int)).map (Value.int .i64) = LI at hmi CI
        clear hLi
        go_enter Try.func6, Try.ntmps6
        go_wp2_with fail
        go_fit HAW.out
        rintro e w1 ⟨rfl, hb⟩
        have B1 := Lib.hid hb; clear hb
        have G := greats_any w1 a1 c1 x0 (RQS.out.below B1.out) M0.out LNS.out
        rw [HGS.out] at G
        have G1 := Lib.hid G; clear G
        have NB := Lib.hid (barnew_ok n w1 hn1 hn8)
        go_wp2_with fail
        go_fit G1.out
        rintro e w2 ⟨rfl, rfl⟩
        go_wp2_with fail
        go_fit NB.out
        rintro e w2 ⟨rfl, hA, hb, hz⟩
        have S3 : Hid (Sgl W w1.heap.size n (fun _ => 0, fun _ => 0) w2) := ⟨hA, RGZ.out, B1.out.trans (hb.mono B1.out.size)⟩
        have HWC : Hid (W.heap.size ≤ w1.heap.size) := B1.out.size
        clear hA hb hz NB G1
        go_upto_region 10 with (fail)
        generalize hcb : w1.heap.size = cb at *
        clear hcb
        go_cut [9] (fun s w => MsCut W cb n s w)
        case first =>
          have hszw : cb < w2.heap.size := S3.out.a.lt
          have A3 := Lib.hid (fun o1 o2 o3 => al3 w2 o1 o2 o3)
          have MK := Lib.hid (fun rb gb ab w' => ms_any (rb := rb) (gb := gb) (ab := ab) (w' := w') S3.out CI.out hszw)
          go_region
          all_goals
            (try go_wp2_with fail)
            go_meet
            first
              | exact MK.out _ _ _ _ (A3.out _ _ _).2.2.2 (A3.out _ _ _).2.2.1 (A3.out _ _ _).1 (A3.out _ _ _).2.1 (by omega) (by omega) (by omega) (by omega) (by omega) (by omega)
              | exact MK.out _ _ _ _ (A3.out _ _ _).2.2.2 (A3.out _ _ _).2.2.1 (A3.out _ _ _).2.1 (A3.out _ _ _).1 (by omega) (by omega) (by omega) (by omega) (by omega) (by omega)
              | exact MK.out _ _ _ _ (A3.out _ _ _).2.2.2 (A3.out _ _ _).2.1 (A3.out _ _ _).1 (A3.out _ _ _).2.2.1 (by omega) (by omega) (by omega) (by omega) (by omega) (by omega)
              | exact MK.out _ _ _ _ (A3.out _ _ _).2.2.2 (A3.out _ _ _).2.1 (A3.out _ _ _).2.2.1 (A3.out _ _ _).1 (by omega) (by omega) (by omega) (by omega) (by omega) (by omega)
              | exact MK.out _ _ _ _ (A3.out _ _ _).2.2.2 (A3.out _ _ _).1 (A3.out _ _ _).2.1 (A3.out _ _ _).2.2.1 (by omega) (by omega) (by omega) (by omega) (by omega) (by omega)
              | exact MK.out _ _ _ _ (A3.out _ _ _).2.2.2 (A3.out _ _ _).1 (A3.out _ _ _).2.2.1 (A3.out _ _ _).2.1 (by omega) (by omega) (by omega) (by omega) (by omega) (by omega)
        case rest =>
          obtain ⟨rb, gb, ab, rfl, hS, hA, n1, n2, n3, n4⟩ := hcut
          have S5 := Lib.hid hS; have A5 := Lib.hid hA
          have HNE : Hid (W.heap.size ≤ rb ∧ W.heap.size ≤ gb ∧ W.heap.size ≤ ab ∧ (cb ≠ rb ∧ cb ≠ gb ∧ cb ≠ ab)) := ⟨n1, n2, n3, n4⟩
          clear hS hA n1 n2 n3 n4 S3 hmi
          generalize hlx : x0.length = lx at *
          have HLX := Lib.hid hlx
          generalize hlr : x2.length = lr at *
          have HLR := Lib.hid hlr
          clear hlx hlr
          go_wp2_with fail
          go_loopw [56] (fun i w => MsRel W cb rb gb ab n lx i w) (fun i _ => lx - (intOf i).toNat)
          case atStart => exact ⟨0, _, Nat.zero_le _, rfl, S5.out, A5.out⟩
          case round =>
            clear S5 A5
            obtain ⟨k, p, hk, rfl, hS, hA⟩ := hrel
            have S := Lib.hid hS; have A := Lib.hid hA
            clear hS hA
            by_cases hlt : k < lx
            · obtain ⟨x, ex, okx, cx⟩ := (RQS.out.below S.out.bel).hs.get (k := k) (by rw [HLX.out]; exact hlt)
              have hxm := List.mem_of_getElem? ex.out
              have RX := Lib.hid (RQS.out.rows x hxm)
              have LX := Lib.hid (LNS.out x hxm)
              have RX1 := Lib.hid (RX.out.below S.out.bel)
              obtain ⟨xa, xc, xs⟩ := x
              unfold RowOf.val at cx
              dsimp only at cx RX LX RX1
              by_cases hkr : (k : Int) < (lr : Int)
              · obtain ⟨r, er, okr, cr⟩ := (S2.out.below S.out.bel).get (k := k) (by rw [HLR.out]; omega)
                clear er
                cases hsq : sqB xs n with
                | false =>
                  have MT := Lib.hid (match_arg wr cb n p.1 p.2 xa xc xs r S.out.a RX1.out LX.out.1 LX.out.2 hsq)
                  have SQ := refsq_any wr xa xc n xs RX1.out LX.out.1 LX.out.2
                  rw [hsq] at SQ
                  have SQ1 := Lib.hid SQ
                  clear hsq hxm SQ
                  go_wp2_with fail
                  go_fit MT.out
                  rintro e w6 ⟨rfl, rfl⟩
                  go_wp2_with fail
                  go_fit SQ1.out
                  rintro e w6 ⟨rfl, rfl⟩
                  obtain ⟨w6, hw6⟩ : ∃ w6, wr = w6 := ⟨_, rfl⟩
                  subst hw6
                  obtain ⟨pp, S6, A6⟩ : ∃ pp, Hid (Sgl W cb n pp wr) ∧ Hid (RefAt wr rb gb ab n pp.1 pp.2) := ⟨p, S, A⟩
                  go_wp2_with fail
                  go_fit (ptr_any wr cb n pp.1 pp.2 S6.out.a hn1 hn8)
                  rintro e w7 ⟨v1, v2, b1, b2, rfl, hc1, hc2, hl1, hl12, hb7⟩
                  obtain ⟨sp1, d1, rfl, hk1⟩ := hc1
                  obtain ⟨sp2, d2, rfl, hk2⟩ := hc2
                  have S7 := Lib.hid (S6.out.below hb7)
                  have A7 := Lib.hid (A6.out.below hb7)
                  have E1 := equalInt_any w7 (some ⟨b1, 0, none⟩) (some ⟨gb, 0, none⟩) d1 n (gL n pp.1) (gL n pp.1) hk1.sub (slG A7.out.hg) (by rw [gL_len]; unfold maxLen; omega)
                  have E2 : ∀ w, Qt w7 w → _ := fun w hq => equalInt_any w (some ⟨b2, 0, none⟩) (some ⟨ab, 0, none⟩) d2 n (gL n pp.2) (gL n pp.2) (hk2.sub.qt hq) ((slG A7.out.ha).qt hq) (by rw [gL_len]; unfold maxLen; omega)
                  rw [gL_len, decide_eq_true (rfl : gL n pp.1 = gL n pp.1)] at E1
                  simp only [gL_len, decide_true] at E2
                  simp only [gL_len]
                  have EE1 := Lib.hid E1; have EE2 := Lib.hid E2
                  have q0 := A7.out.hb.cell (i := 0) rfl
                  have q1 := A7.out.hb.cell (i := 1) rfl
                  clear E1 E2 hk1 hk2 hl1 hl12 hb7
                  go_wp2_with fail
                  go_fit EE1.out
                  rintro e w8 ⟨rfl, hq8⟩
                  have q2 : w8.cell? ⟨rb, 1, none⟩ = some (.slice (some ⟨ab, 0, none⟩) n n) := by rw [hq8.cell]; exact q1
                  have EE3 := Lib.hid (EE2.out w8 hq8)
                  have HQ8 := Lib.hid hq8
                  clear hq8
                  go_wp2_with fail
                  go_fit EE3.out
                  rintro e w9 ⟨rfl, hq9⟩
                  have Q9 := Lib.hid (HQ8.out.trans hq9)
                  clear hq9
                  go_wp2_with fail
                  go_roundw
                  case rel => exact ⟨k + 1, pp, by omega, by go_num, S7.out.below Q9.out.bel, A7.out.below Q9.out.bel⟩
                  case measure => simp [intOf]; omega
                | true =>
                  obtain ⟨hl, hrow⟩ : xs.length = n ∧ ∀ r ∈ xs, r.xs.length = n := by simpa [sqB] using hsq
                  have HL := Lib.hid hl; have HROW := Lib.hid hrow
                  have SQ := refsq_any wr xa xc n xs RX1.out LX.out.1 LX.out.2
                  rw [hsq] at SQ
                  have SQ1 := Lib.hid SQ; have HSQ := Lib.hid hsq
                  clear SQ hsq hxm hl hrow
                  by_cases hbad : r < 1 ∨ 8 < r
                  · have MT := Lib.hid (match_range wr cb n p.1 p.2 xa xc xs r S.out.a RX1.out LX.out.1 LX.out.2 HSQ.out hbad)
                    rcases hbad with hb1 | hb1
                    · go_wp2_with fail
                      go_fit MT.out
                      rintro e w6 ⟨rfl, rfl⟩
                      go_wp2_with fail
                      go_fit SQ1.out
                      rintro e w6 ⟨rfl, rfl⟩
                      obtain ⟨pp, S6, A6⟩ : ∃ pp, Hid (Sgl W cb n pp wr) ∧ Hid (RefAt wr rb gb ab n pp.1 pp.2) := ⟨p, S, A⟩
                      go_wp2_with fail
                      go_fit (ptr_any wr cb n pp.1 pp.2 S6.out.a hn1 hn8)
                      rintro e w7 ⟨v1, v2, b1, b2, rfl, hc1, hc2, hl1, hl12, hb7⟩
                      obtain ⟨sp1, d1, rfl, hk1⟩ := hc1
                      obtain ⟨sp2, d2, rfl, hk2⟩ := hc2
                      have S7 := Lib.hid (S6.out.below hb7)
                      have A7 := Lib.hid (A6.out.below hb7)
                      have E1 := equalInt_any w7 (some ⟨b1, 0, none⟩) (some ⟨gb, 0, none⟩) d1 n (gL n pp.1) (gL n pp.1) hk1.sub (slG A7.out.hg) (by rw [gL_len]; unfold maxLen; omega)
                      have E2 : ∀ w, Qt w7 w → _ := fun w hq => equalInt_any w (some ⟨b2, 0, none⟩) (some ⟨ab, 0, none⟩) d2 n (gL n pp.2) (gL n pp.2) (hk2.sub.qt hq) ((slG A7.out.ha).qt hq) (by rw [gL_len]; unfold maxLen; omega)
                      rw [gL_len, decide_eq_true (rfl : gL n pp.1 = gL n pp.1)] at E1
                      simp only [gL_len, decide_true] at E2
                      simp only [gL_len]
                      have EE1 := Lib.hid E1; have EE2 := Lib.hid E2
                      have q0 := A7.out.hb.cell (i := 0) rfl
                      have q1 := A7.out.hb.cell (i := 1) rfl
                      clear E1 E2 hk1 hk2 hl1 hl12 hb7
                      go_wp2_with fail
                      go_fit EE1.out
                      rintro e w8 ⟨rfl, hq8⟩
                      have q2 : w8.cell? ⟨rb, 1, none⟩ = some (.slice (some ⟨ab, 0, none⟩) n n) := by rw [hq8.cell]; exact q1
                      have EE3 := Lib.hid (EE2.out w8 hq8)
                      have HQ8 := Lib.hid hq8
                      clear hq8
                      go_wp2_with fail
                      go_fit EE3.out
                      rintro e w9 ⟨rfl, hq9⟩
                      have Q9 := Lib.hid (HQ8.out.trans hq9)
                      clear hq9
                      go_wp2_with fail
                      go_roundw
                      case rel => exact ⟨k + 1, pp, by omega, by go_num, S7.out.below Q9.out.bel, A7.out.below Q9.out.bel⟩
                      case measure => simp [intOf]; omega
                    · have hb2 : ¬ r < 1 := by omega
                      go_wp2_with fail
                      go_fit MT.out
                      rintro e w6 ⟨rfl, rfl⟩
                      go_wp2_with fail
                      go_fit SQ1.out
                      rintro e w6 ⟨rfl, rfl⟩
                      obtain ⟨pp, S6, A6⟩ : ∃ pp, Hid (Sgl W cb n pp wr) ∧ Hid (RefAt wr rb gb ab n pp.1 pp.2) := ⟨p, S, A⟩
                      go_wp2_with fail
                      go_fit (ptr_any wr cb n pp.1 pp.2 S6.out.a hn1 hn8)
                      rintro e w7 ⟨v1, v2, b1, b2, rfl, hc1, hc2, hl1, hl12, hb7⟩
                      obtain ⟨sp1, d1, rfl, hk1⟩ := hc1
                      obtain ⟨sp2, d2, rfl, hk2⟩ := hc2
                      have S7 := Lib.hid (S6.out.below hb7)
                      have A7 := Lib.hid (A6.out.below hb7)
                      have E1 := equalInt_any w7 (some ⟨b1, 0, none⟩) (some ⟨gb, 0, none⟩) d1 n (gL n pp.1) (gL n pp.1) hk1.sub (slG A7.out.hg) (by rw [gL_len]; unfold maxLen; omega)
                      have E2 : ∀ w, Qt w7 w → _ := fun w hq => equalInt_any w (some ⟨b2, 0, none⟩) (some ⟨ab, 0, none⟩) d2 n (gL n pp.2) (gL n pp.2) (hk2.sub.qt hq) ((slG A7.out.ha).qt hq) (by rw [gL_len]; unfold maxLen; omega)
                      rw [gL_len, decide_eq_true (rfl : gL n pp.1 = gL n pp.1)] at E1
                      simp only [gL_len, decide_true] at E2
                      simp only [gL_len]
                      have EE1 := Lib.hid E1; have EE2 := Lib.hid E2
                      have q0 := A7.out.hb.cell (i := 0) rfl
                      have q1 := A7.out.hb.cell (i := 1) rfl
                      clear E1 E2 hk1 hk2 hl1 hl12 hb7
                      go_wp2_with fail
                      go_fit EE1.out
                      rintro e w8 ⟨rfl, hq8⟩
                      have q2 : w8.cell? ⟨rb, 1, none⟩ = some (.slice (some ⟨ab, 0, none⟩) n n) := by rw [hq8.cell]; exact q1
                      have EE3 := Lib.hid (EE2.out w8 hq8)
                      have HQ8 := Lib.hid hq8
                      clear hq8
                      go_wp2_with fail
                      go_fit EE3.out
                      rintro e w9 ⟨rfl, hq9⟩
                      have Q9 := Lib.hid (HQ8.out.trans hq9)
                      clear hq9
                      go_wp2_with fail
                      go_roundw
                      case rel => exact ⟨k + 1, pp, by omega, by go_num, S7.out.below Q9.out.bel, A7.out.below Q9.out.bel⟩
                      case measure => simp [intOf]; omega
                  · obtain ⟨q, eq⟩ : ∃ q : Nat, Hid (r = (q : Int)) := ⟨(r).toNat, by show _ = _; omega⟩
                    have hq1 : 1 ≤ q := by have := eq.out; omega
                    have hq8 : q ≤ 8 := by have := eq.out; omega
                    have hb1 : ¬ r < 1 := by omega
                    have hb2 : ¬ 8 < r := by omega
                    clear hbad
                    have MT := match_ok wr cb n q p.1 p.2 xa xc xs S.out.a RX1.out LX.out.1 LX.out.2 HSQ.out hq1 hq8 hn1 hn8 S.out.rg.g S.out.rg.a (req_offn' RX.out HWC.out)
                    have O := Lib.hid (Bar.rounds_ok (Bar.start_ok (req := reqF xs) S.out.rg.g S.out.rg.a) q)
                    have RM : Hid (∀ w, RefAt w rb gb ab n p.1 p.2 → Req w xa xs → Calls Try.prog 23 #[.pointer (some ⟨rb, 0, none⟩), .slice xa n xc, .int .i64 r] w (RmPost w rb gb ab n (Bar.rounds (reqF xs) n (Bar.start p.1 p.2) q))) := fun w h1 h2 => by
                      rw [eq.out]
                      exact refmatch_any w rb gb ab n q p.1 p.2 xa xc xs h1 h2 HL.out HROW.out hn1 hn8 hq8 S.out.rg.g S.out.rg.a (RX.out.off (S := fun _ => False) ⟨fun _ => id, fun _ _ _ => id⟩ fun j hj => .inr (by rcases hj with rfl | rfl; exact HNE.out.2.1; exact HNE.out.2.2.1))
                    rw [← eq.out] at MT
                    generalize Bar.rounds (reqF xs) n (Bar.start p.1 p.2) q = s at *
                    have MT2 := Lib.hid MT
                    clear MT
                    go_wp2_with fail
                    go_fit MT2.out
                    rintro e w4 ⟨rfl, hA4, hF4, hU4⟩
                    have lcb := S.out.a.lt
                    have lrb := A.out.hb.lt
                    have lgb := A.out.hg.lt
                    have lab := A.out.ha.lt
                    obtain ⟨hrb, hgb, hab, hcc⟩ := HNE.out
                    have S4 : Hid (Sgl W cb n (s.g, s.a) w4) := ⟨hA4, ⟨O.out.g, O.out.a⟩, Upd.below S.out.bel hU4 S.out.bel.size fun i hi => by have := HWC.out; omega⟩
                    have A4 : Hid (RefAt w4 rb gb ab n p.1 p.2) := A.out.upd hU4 (by omega) (by omega) (by omega)
                    have F4 := Lib.hid hF4
                    have SQ2 := refsq_any w4 xa xc n xs (RX.out.below S4.out.bel) LX.out.1 LX.out.2
                    rw [HSQ.out, HL.out] at SQ2
                    have SQ3 := Lib.hid SQ2
                    have RM2 := Lib.hid (RM.out w4 A4.out (RX.out.below S4.out.bel))
                    rw [HL.out]
                    clear hA4 hF4 hU4 MT2 SQ2 RM
                    generalize hmb : wr.heap.size = mb at *
                    have HMB : Hid (mb < w4.heap.size) := F4.out.lt
                    clear hmb
                    go_wp2_with fail
                    go_fit SQ3.out
                    rintro e w5 ⟨rfl, rfl⟩
                    go_wp2_with fail
                    go_fit RM2.out
                    rintro e w5 ⟨v5, b5, rfl, ⟨sp5, c5, rfl, hk5⟩, hA5, hU5⟩
                    have hneg : mb ≠ gb ∧ mb ≠ ab := by omega
                    have EQ := equalInt_any w5 (some ⟨mb, 0, none⟩) (some ⟨b5, 0, none⟩) n c5 (mL n s.m) (mL n s.m) (F4.out.upd hU5 (by omega)).sl hk5.sub (by rw [mL_len]; unfold maxLen; omega)
                    rw [mL_len, decide_eq_true (rfl : mL n s.m = mL n s.m)] at EQ
                    rw [mL_len]
                    have EQ1 := Lib.hid EQ
                    have S5 : Hid (Sgl W cb n (s.g, s.a) w5) := ⟨S4.out.a.upd hU5 (by omega), S4.out.rg, Upd.below S4.out.bel hU5 S4.out.bel.size fun i hi => by omega⟩
                    have A5 := Lib.hid hA5
                    clear EQ hk5 hU5 hA5 hneg RM2 SQ3 SQ1
                    go_wp2_with fail
                    go_fit EQ1.out
                    rintro e w6 ⟨rfl, hq6⟩
                    obtain ⟨pp, S6, A6⟩ : ∃ pp, Hid (Sgl W cb n pp w6) ∧ Hid (RefAt w6 rb gb ab n pp.1 pp.2) := ⟨(s.g, s.a), S5.out.below hq6.bel, A5.out.below hq6.bel⟩
                    clear hq6 S5 A5 S4 A4 F4 EQ1
                    go_wp2_with fail
                    go_fit (ptr_any w6 cb n pp.1 pp.2 S6.out.a hn1 hn8)
                    rintro e w7 ⟨v1, v2, b1, b2, rfl, hc1, hc2, hl1, hl12, hb7⟩
                    obtain ⟨sp1, d1, rfl, hk1⟩ := hc1
                    obtain ⟨sp2, d2, rfl, hk2⟩ := hc2
                    have S7 := Lib.hid (S6.out.below hb7)
                    have A7 := Lib.hid (A6.out.below hb7)
                    have E1 := equalInt_any w7 (some ⟨b1, 0, none⟩) (some ⟨gb, 0, none⟩) d1 n (gL n pp.1) (gL n pp.1) hk1.sub (slG A7.out.hg) (by rw [gL_len]; unfold maxLen; omega)
                    have E2 : ∀ w, Qt w7 w → _ := fun w hq => equalInt_any w (some ⟨b2, 0, none⟩) (some ⟨ab, 0, none⟩) d2 n (gL n pp.2) (gL n pp.2) (hk2.sub.qt hq) ((slG A7.out.ha).qt hq) (by rw [gL_len]; unfold maxLen; omega)
                    rw [gL_len, decide_eq_true (rfl : gL n pp.1 = gL n pp.1)] at E1
                    simp only [gL_len, decide_true] at E2
                    simp only [gL_len]
                    have EE1 := Lib.hid E1; have EE2 := Lib.hid E2
                    have q0 := A7.out.hb.cell (i := 0) rfl
                    have q1 := A7.out.hb.cell (i := 1) rfl
                    clear E1 E2 hk1 hk2 hl1 hl12 hb7
                    go_wp2_with fail
                    go_fit EE1.out
                    rintro e w8 ⟨rfl, hq8⟩
                    have q2 : w8.cell? ⟨rb, 1, none⟩ = some (.slice (some ⟨ab, 0, none⟩) n n) := by rw [hq8.cell]; exact q1
                    have EE3 := Lib.hid (EE2.out w8 hq8)
                    have HQ8 := Lib.hid hq8
                    clear hq8
                    go_wp2_with fail
                    go_fit EE3.out
                    rintro e w9 ⟨rfl, hq9⟩
                    have Q9 := Lib.hid (HQ8.out.trans hq9)
                    clear hq9
                    go_wp2_with fail
                    go_roundw
                    case rel => exact ⟨k + 1, pp, by omega, by go_num, S7.out.below Q9.out.bel, A7.out.below Q9.out.bel⟩
                    case measure => simp [intOf]; omega
              · have hk2 : Hid (k ≤ k) := Nat.le_refl _
                cases hsq : sqB xs n with
                | false =>
                  have MT := Lib.hid (match_arg wr cb n p.1 p.2 xa xc xs (n : Int) S.out.a RX1.out LX.out.1 LX.out.2 hsq)
                  have SQ := refsq_any wr xa xc n xs RX1.out LX.out.1 LX.out.2
                  rw [hsq] at SQ
                  have SQ1 := Lib.hid SQ
                  clear hsq hxm SQ
                  go_wp2_with fail
                  go_fit MT.out
                  rintro e w6 ⟨rfl, rfl⟩
                  go_wp2_with fail
                  go_fit SQ1.out
                  rintro e w6 ⟨rfl, rfl⟩
                  obtain ⟨w6, hw6⟩ : ∃ w6, wr = w6 := ⟨_, rfl⟩
                  subst hw6
                  obtain ⟨pp, S6, A6⟩ : ∃ pp, Hid (Sgl W cb n pp wr) ∧ Hid (RefAt wr rb gb ab n pp.1 pp.2) := ⟨p, S, A⟩
                  go_wp2_with fail
                  go_fit (ptr_any wr cb n pp.1 pp.2 S6.out.a hn1 hn8)
                  rintro e w7 ⟨v1, v2, b1, b2, rfl, hc1, hc2, hl1, hl12, hb7⟩
                  obtain ⟨sp1, d1, rfl, hk1⟩ := hc1
                  obtain ⟨sp2, d2, rfl, hk2⟩ := hc2
                  have S7 := Lib.hid (S6.out.below hb7)
                  have A7 := Lib.hid (A6.out.below hb7)
                  have E1 := equalInt_any w7 (some ⟨b1, 0, none⟩) (some ⟨gb, 0, none⟩) d1 n (gL n pp.1) (gL n pp.1) hk1.sub (slG A7.out.hg) (by rw [gL_len]; unfold maxLen; omega)
                  have E2 : ∀ w, Qt w7 w → _ := fun w hq => equalInt_any w (some ⟨b2, 0, none⟩) (some ⟨ab, 0, none⟩) d2 n (gL n pp.2) (gL n pp.2) (hk2.sub.qt hq) ((slG A7.out.ha).qt hq) (by rw [gL_len]; unfold maxLen; omega)
                  rw [gL_len, decide_eq_true (rfl : gL n pp.1 = gL n pp.1)] at E1
                  simp only [gL_len, decide_true] at E2
                  simp only [gL_len]
                  have EE1 := Lib.hid E1; have EE2 := Lib.hid E2
                  have q0 := A7.out.hb.cell (i := 0) rfl
                  have q1 := A7.out.hb.cell (i := 1) rfl
                  clear E1 E2 hk1 hk2 hl1 hl12 hb7
                  go_wp2_with fail
                  go_fit EE1.out
                  rintro e w8 ⟨rfl, hq8⟩
                  have q2 : w8.cell? ⟨rb, 1, none⟩ = some (.slice (some ⟨ab, 0, none⟩) n n) := by rw [hq8.cell]; exact q1
                  have EE3 := Lib.hid (EE2.out w8 hq8)
                  have HQ8 := Lib.hid hq8
                  clear hq8
                  go_wp2_with fail
                  go_fit EE3.out
                  rintro e w9 ⟨rfl, hq9⟩
                  have Q9 := Lib.hid (HQ8.out.trans hq9)
                  clear hq9
                  go_wp2_with fail
                  go_roundw
                  case rel => exact ⟨k + 1, pp, by omega, by go_num, S7.out.below Q9.out.bel, A7.out.below Q9.out.bel⟩
                  case measure => simp [intOf]; omega
                | true =>
                  obtain ⟨hl, hrow⟩ : xs.length = n ∧ ∀ r ∈ xs, r.xs.length = n := by simpa [sqB] using hsq
                  have HL := Lib.hid hl; have HROW := Lib.hid hrow
                  have SQ := refsq_any wr xa xc n xs RX1.out LX.out.1 LX.out.2
                  rw [hsq] at SQ
                  have SQ1 := Lib.hid SQ; have HSQ := Lib.hid hsq
                  clear SQ hsq hxm hl hrow
                  by_cases hbad : (n : Int) < 1 ∨ 8 < (n : Int)
                  · omega
                  · obtain ⟨q, eq⟩ : ∃ q : Nat, Hid ((n : Int) = (q : Int)) := ⟨((n : Int)).toNat, by show _ = _; omega⟩
                    have hq1 : 1 ≤ q := by have := eq.out; omega
                    have hq8 : q ≤ 8 := by have := eq.out; omega
                    have hb1 : ¬ (n : Int) < 1 := by omega
                    have hb2 : ¬ 8 < (n : Int) := by omega
                    clear hbad
                    have MT := match_ok wr cb n q p.1 p.2 xa xc xs S.out.a RX1.out LX.out.1 LX.out.2 HSQ.out hq1 hq8 hn1 hn8 S.out.rg.g S.out.rg.a (req_offn' RX.out HWC.out)
                    have O := Lib.hid (Bar.rounds_ok (Bar.start_ok (req := reqF xs) S.out.rg.g S.out.rg.a) q)
                    have RM : Hid (∀ w, RefAt w rb gb ab n p.1 p.2 → Req w xa xs → Calls Try.prog 23 #[.pointer (some ⟨rb, 0, none⟩), .slice xa n xc, .int .i64 (n : Int)] w (RmPost w rb gb ab n (Bar.rounds (reqF xs) n (Bar.start p.1 p.2) q))) := fun w h1 h2 => by
                      rw [eq.out]
                      exact refmatch_any w rb gb ab n q p.1 p.2 xa xc xs h1 h2 HL.out HROW.out hn1 hn8 hq8 S.out.rg.g S.out.rg.a (RX.out.off (S := fun _ => False) ⟨fun _ => id, fun _ _ _ => id⟩ fun j hj => .inr (by rcases hj with rfl | rfl; exact HNE.out.2.1; exact HNE.out.2.2.1))
                    rw [← eq.out] at MT
                    generalize Bar.rounds (reqF xs) n (Bar.start p.1 p.2) q = s at *
                    have MT2 := Lib.hid MT
                    clear MT
                    go_wp2_with fail
                    go_fit MT2.out
                    rintro e w4 ⟨rfl, hA4, hF4, hU4⟩
                    have lcb := S.out.a.lt
                    have lrb := A.out.hb.lt
                    have lgb := A.out.hg.lt
                    have lab := A.out.ha.lt
                    obtain ⟨hrb, hgb, hab, hcc⟩ := HNE.out
                    have S4 : Hid (Sgl W cb n (s.g, s.a) w4) := ⟨hA4, ⟨O.out.g, O.out.a⟩, Upd.below S.out.bel hU4 S.out.bel.size fun i hi => by have := HWC.out; omega⟩
                    have A4 : Hid (RefAt w4 rb gb ab n p.1 p.2) := A.out.upd hU4 (by omega) (by omega) (by omega)
                    have F4 := Lib.hid hF4
                    have SQ2 := refsq_any w4 xa xc n xs (RX.out.below S4.out.bel) LX.out.1 LX.out.2
                    rw [HSQ.out, HL.out] at SQ2
                    have SQ3 := Lib.hid SQ2
                    have RM2 := Lib.hid (RM.out w4 A4.out (RX.out.below S4.out.bel))
                    rw [HL.out]
                    clear hA4 hF4 hU4 MT2 SQ2 RM
                    generalize hmb : wr.heap.size = mb at *
                    have HMB : Hid (mb < w4.heap.size) := F4.out.lt
                    clear hmb
                    go_wp2_with fail
                    go_fit SQ3.out
                    rintro e w5 ⟨rfl, rfl⟩
                    go_wp2_with fail
                    go_fit RM2.out
                    rintro e w5 ⟨v5, b5, rfl, ⟨sp5, c5, rfl, hk5⟩, hA5, hU5⟩
                    have hneg : mb ≠ gb ∧ mb ≠ ab := by omega
                    have EQ := equalInt_any w5 (some ⟨mb, 0, none⟩) (some ⟨b5, 0, none⟩) n c5 (mL n s.m) (mL n s.m) (F4.out.upd hU5 (by omega)).sl hk5.sub (by rw [mL_len]; unfold maxLen; omega)
                    rw [mL_len, decide_eq_true (rfl : mL n s.m = mL n s.m)] at EQ
                    rw [mL_len]
                    have EQ1 := Lib.hid EQ
                    have S5 : Hid (Sgl W cb n (s.g, s.a) w5) := ⟨S4.out.a.upd hU5 (by omega), S4.out.rg, Upd.below S4.out.bel hU5 S4.out.bel.size fun i hi => by omega⟩
                    have A5 := Lib.hid hA5
                    clear EQ hk5 hU5 hA5 hneg RM2 SQ3 SQ1
                    go_wp2_with fail
                    go_fit EQ1.out
                    rintro e w6 ⟨rfl, hq6⟩
                    obtain ⟨pp, S6, A6⟩ : ∃ pp, Hid (Sgl W cb n pp w6) ∧ Hid (RefAt w6 rb gb ab n pp.1 pp.2) := ⟨(s.g, s.a), S5.out.below hq6.bel, A5.out.below hq6.bel⟩
                    clear hq6 S5 A5 S4 A4 F4 EQ1
                    go_wp2_with fail
                    go_fit (ptr_any w6 cb n pp.1 pp.2 S6.out.a hn1 hn8)
                    rintro e w7 ⟨v1, v2, b1, b2, rfl, hc1, hc2, hl1, hl12, hb7⟩
                    obtain ⟨sp1, d1, rfl, hk1⟩ := hc1
                    obtain ⟨sp2, d2, rfl, hk2⟩ := hc2
                    have S7 := Lib.hid (S6.out.below hb7)
                    have A7 := Lib.hid (A6.out.below hb7)
                    have E1 := equalInt_any w7 (some ⟨b1, 0, none⟩) (some ⟨gb, 0, none⟩) d1 n (gL n pp.1) (gL n pp.1) hk1.sub (slG A7.out.hg) (by rw [gL_len]; unfold maxLen; omega)
                    have E2 : ∀ w, Qt w7 w → _ := fun w hq => equalInt_any w (some ⟨b2, 0, none⟩) (some ⟨ab, 0, none⟩) d2 n (gL n pp.2) (gL n pp.2) (hk2.sub.qt hq) ((slG A7.out.ha).qt hq) (by rw [gL_len]; unfold maxLen; omega)
                    rw [gL_len, decide_eq_true (rfl : gL n pp.1 = gL n pp.1)] at E1
                    simp only [gL_len, decide_true] at E2
                    simp only [gL_len]
                    have EE1 := Lib.hid E1; have EE2 := Lib.hid E2
                    have q0 := A7.out.hb.cell (i := 0) rfl
                    have q1 := A7.out.hb.cell (i := 1) rfl
                    clear E1 E2 hk1 hk2 hl1 hl12 hb7
                    go_wp2_with fail
                    go_fit EE1.out
                    rintro e w8 ⟨rfl, hq8⟩
                    have q2 : w8.cell? ⟨rb, 1, none⟩ = some (.slice (some ⟨ab, 0, none⟩) n n) := by rw [hq8.cell]; exact q1
                    have EE3 := Lib.hid (EE2.out w8 hq8)
                    have HQ8 := Lib.hid hq8
                    clear hq8
                    go_wp2_with fail
                    go_fit EE3.out
                    rintro e w9 ⟨rfl, hq9⟩
                    have Q9 := Lib.hid (HQ8.out.trans hq9)
                    clear hq9
                    go_wp2_with fail
                    go_roundw
                    case rel => exact ⟨k + 1, pp, by omega, by go_num, S7.out.below Q9.out.bel, A7.out.below Q9.out.bel⟩
                    case measure => simp [intOf]; omega
            · obtain rfl : lx = k := by omega
              go_wp2_with fail
              go_ret
              exact ⟨rfl, S.out.bel⟩
end Go.Proofs.Ytldgpdgoccccpaa
