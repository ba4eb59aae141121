/-
  The walk of the law CrossbarFills.
-/
import Derived.Test.YtldgpdgoccccpaaBarGen
namespace Go.Proofs.Ytldgpdgoccccpaa
open Go.RowKit
set_option linter.unusedVariables false

/-- One crossbar. -/
structure Sgl (W : World) (ca n : Nat) (p : (Nat → Nat) × (Nat → Nat)) (w : World) : Prop where
  a : BarAt w ca n p.1 p.2
  rg : Bar.Rg n p
  bel : Below W.heap.size W w
theorem Sgl.below {W : World} {ca n : Nat} {p : (Nat → Nat) × (Nat → Nat)} {w w' : World} (h : Sgl W ca n p w) (b : Below w.heap.size w w') : Sgl W ca n p w' := ⟨h.a.below b, h.rg, h.bel.trans (b.mono h.bel.size)⟩
def FlRel (W : World) (ca n l : Nat) (i : Value) (w : World) : Prop := ∃ (k : Nat) (p : (Nat → Nat) × (Nat → Nat)), k ≤ l ∧ i = .int .i64 k ∧ Sgl W ca n p w
theorem req_offn' {W : World} {a : Option Addr} {rs : List (RowOf Bool)} (h : Req W a rs) {cb : Nat} (hc : W.heap.size ≤ cb) : Off a rs (fun j => j = cb) :=
  h.off (S := fun _ => False) ⟨fun _ => id, fun _ _ _ => id⟩ fun j hj => .inr (by rw [hj]; exact hc)
theorem cnt_succ (n : Nat) (p : Nat → Bool) : Bar.cnt (n + 1) p = Bar.cnt n p + if p n then 1 else 0 := by
  unfold Bar.cnt
  rw [List.range_succ, List.filter_append, List.length_append]
  cases h : p n <;> simp [h]
def MyRel (W : World) (ca n mb : Nat) (p : (Nat → Nat) × (Nat → Nat)) (m : Nat → Int) (c i : Value) (w : World) : Prop :=
  ∃ k : Nat, k ≤ n ∧ i = .int .i64 k ∧ c = .int .i64 (Bar.cnt k fun i => decide (0 ≤ m i) : Nat) ∧ Sgl W ca n p w ∧ Fun w mb 3 n (iF m)

set_option maxHeartbeats 8000000 in
set_option maxRecDepth 100000 in
theorem crossbarFills_walk (W : World) (a0 : Option Addr) (c0 : Nat) (x0 : List (RowOf (RowOf Bool))) (s0 : Sl RowOf.val W a0 x0) (g0 : ∀ r ∈ x0, Sl RowOf.val W (RowOf.a r) r.xs ∧ (∀ l ∈ r.xs, Sl Value.bool W (RowOf.a l) l.xs ∧ (∀ y ∈ l.xs, True) ∧ l.xs.length ≤ maxLen) ∧ r.xs.length ≤ maxLen) (m0 : x0.length ≤ maxLen) :
    Calls Try.prog 10 #[.slice a0 x0.length c0] W fun e W' => e = .returned (.bool true) ∧ Below W.heap.size W W' := by
  obtain ⟨rqs, lns⟩ := reqs_of s0 g0
  have RQS := Lib.hid rqs; have LNS := Lib.hid lns; have M0 := Lib.hid m0
  have HAW := Lib.hid (awake_ok W)
  unfold maxLen at m0
  clear s0 g0 rqs lns
  cases hgs : grsB x0 with
  | true =>
    have HGS := Lib.hid hgs; clear hgs
    go_enter Try.func10, Try.ntmps10
    go_wp2_with fail
    go_fit HAW.out
    rintro e w1 ⟨rfl, hb⟩
    have B1 := Lib.hid hb; clear hb
    have G := greats_any w1 a0 c0 x0 (RQS.out.below B1.out) M0.out LNS.out
    rw [HGS.out] at G
    have G1 := Lib.hid G; clear G
    go_wp2_with fail
    go_fit G1.out
    rintro e w2 ⟨rfl, rfl⟩
    go_wp2_with fail
    go_ret
    exact ⟨rfl, B1.out⟩
  | false =>
    have HGS := Lib.hid hgs
    have GALL := Lib.hid (grsB_false hgs).2
    have l20 := (grsB_false hgs).1
    clear hgs
    cases hx0 : x0 with
    | nil =>
      subst hx0
      go_enter Try.func10, Try.ntmps10
      go_wp2_with fail
      go_fit HAW.out
      rintro e w1 ⟨rfl, hb⟩
      have B1 := Lib.hid hb; clear hb
      have G := greats_any w1 a0 c0 [] (RQS.out.below B1.out) M0.out LNS.out
      rw [HGS.out] at G
      have G1 := Lib.hid G; clear G
      go_wp2_with fail
      go_fit G1.out
      rintro e w2 ⟨rfl, rfl⟩
      go_wp2_with fail
      go_ret
      exact ⟨rfl, B1.out⟩
    | cons y ys =>
      have hpos : 0 < x0.length := by rw [hx0]; simp
      have hget : x0[0]? = some y := by rw [hx0]; rfl
      have HY := Lib.hid hget
      have hyl : y.xs.length ≤ 10 := (grB_false (GALL.out y (List.mem_of_getElem? hget))).1
      rw [← hx0]
      clear hx0 hget
      have hne : ((x0.length : Int) == 0) = false := by rw [beq_eq_false_iff_ne]; omega
      have hposi : (0 : Int) < (x0.length : Int) := by omega
      generalize hlx : x0.length = lx at *
      have HLX := Lib.hid hlx; clear hlx
      have RQW := Lib.hid (RQS.out)
      have yget : ∀ w, Below W.heap.size W w → okAd a0 = true ∧ w.cell? (adr a0 0) = some (.slice y.a y.xs.length y.c) := fun w hb => by
        obtain ⟨h1, h2⟩ := (RQS.out.below hb).hs 0 y HY.out
        exact ⟨h1, h2⟩
      have YG := Lib.hid yget; clear yget
      by_cases hbad : (y.xs.length : Int) < 1 ∨ (8 : Int) < y.xs.length
      · go_enter Try.func10, Try.ntmps10
        go_wp2_with fail
        go_fit HAW.out
        rintro e w1 ⟨rfl, hb⟩
        have B1 := Lib.hid hb; clear hb
        have G := greats_any w1 a0 c0 x0 (RQS.out.below B1.out) (by rw [HLX.out]; exact M0.out) LNS.out
        rw [HGS.out, HLX.out] at G
        have G1 := Lib.hid G; clear G
        obtain ⟨y1, y2⟩ := YG.out w1 B1.out
        have NB := Lib.hid (barnew_bad (y.xs.length : Int) w1 hbad)
        go_wp2_with fail
        go_fit G1.out
        rintro e w2 ⟨rfl, rfl⟩
        go_wp2_with fail
        go_fit NB.out
        rintro e w2 ⟨rfl, rfl⟩
        rcases hbad with h1 | h1
        · go_wp2_with fail
          go_ret
          exact ⟨rfl, B1.out⟩
        · have h2 : ¬ (y.xs.length : Int) < 1 := by omega
          go_wp2_with fail
          go_ret
          exact ⟨rfl, B1.out⟩
      · have hn1 : 1 ≤ y.xs.length := by omega
        have hn8 : y.xs.length ≤ 8 := by omega
        clear hbad hyl
        have RGZ : Hid (Bar.Rg y.xs.length (fun _ => 0, fun _ => 0)) := ⟨fun k hk => by show 0 < _; omega, fun k hk => by show 0 < _; omega⟩
        generalize hn : y.xs.length = n at *
        have HN := Lib.hid hn
        clear hn
        go_enter Try.func10, Try.ntmps10
        go_wp2_with fail
        go_fit HAW.out
        rintro e w1 ⟨rfl, hb⟩
        have B1 := Lib.hid hb; clear hb
        have G := greats_any w1 a0 c0 x0 (RQS.out.below B1.out) (by rw [HLX.out]; exact M0.out) LNS.out
        rw [HGS.out, HLX.out] at G
        have G1 := Lib.hid G; clear G
        obtain ⟨y1, y2⟩ := YG.out w1 B1.out
        have NB := Lib.hid (barnew_ok n w1 hn1 hn8)
        go_wp2_with fail
        go_fit G1.out
        rintro e w2 ⟨rfl, rfl⟩
        go_wp2_with fail
        go_fit NB.out
        rintro e w2 ⟨rfl, hA, hb, hz⟩
        have S2 : Hid (Sgl W w1.heap.size n (fun _ => 0, fun _ => 0) w2) := ⟨hA, RGZ.out, B1.out.trans (hb.mono B1.out.size)⟩
        have hWa := B1.out.size
        clear hA hb hz NB G1 y1 y2
        go_wp2_with fail
        generalize hca : w1.heap.size = ca at *
        clear hca
        go_loopw [47] (fun i w => FlRel W ca n lx i w) (fun i _ => lx - (intOf i).toNat)
        case atStart => exact ⟨0, _, Nat.zero_le _, rfl, S2.out⟩
        case round =>
          clear S2
          obtain ⟨k, p, hk, rfl, hS⟩ := hrel
          have S := Lib.hid hS; clear hS
          by_cases hlt : k < lx
          · obtain ⟨x, ex, okx, cx⟩ := (RQS.out.below S.out.bel).hs.get (k := k) (by rw [HLX.out]; exact hlt)
            have hxm := List.mem_of_getElem? ex.out
            have RX := Lib.hid (RQS.out.rows x hxm)
            have LX := Lib.hid (LNS.out x hxm)
            have RX1 := Lib.hid (RX.out.below S.out.bel)
            obtain ⟨xa, xc, xs⟩ := x
            unfold RowOf.val at cx
            dsimp only at cx RX LX RX1
            cases hsq : sqB xs n with
            | false =>
              have MT := Lib.hid (match_arg wr ca n p.1 p.2 xa xc xs n S.out.a RX1.out LX.out.1 LX.out.2 hsq)
              clear hsq hxm
              go_wp2_with fail
              go_fit MT.out
              rintro e w3 ⟨rfl, rfl⟩
              go_wp2_with fail
              go_roundw
              case rel => exact ⟨k + 1, p, by omega, by go_num, S.out⟩
              case measure => simp [intOf]; omega
            | true =>
              obtain ⟨hl, hrow⟩ : xs.length = n ∧ ∀ r ∈ xs, r.xs.length = n := by simpa [sqB] using hsq
              have HL := Lib.hid hl
              have O := Lib.hid (Bar.rounds_ok (Bar.start_ok (req := reqF xs) S.out.rg.g S.out.rg.a) n)
              have MX := Lib.hid (Bar.rounds_maxi (Bar.start_ok (req := reqF xs) S.out.rg.g S.out.rg.a))
              have HFM : Hid (fmB xs = true) := by
                show _ = _
                simp only [fmB, Bool.and_eq_true, decide_eq_true_eq]
                exact ⟨by omega, by rw [hl]; exact hsq⟩
              have MT := Lib.hid (match_ok wr ca n n p.1 p.2 xa xc xs S.out.a RX1.out LX.out.1 LX.out.2 hsq hn1 hn8 hn1 hn8 S.out.rg.g S.out.rg.a (req_offn' RX.out hWa))
              generalize Bar.rounds (reqF xs) n (Bar.start p.1 p.2) n = s at *
              clear hsq hxm hl hrow
              have lmb : Hid (wr.heap.size = wr.heap.size) := rfl
              go_wp2_with fail
              go_fit MT.out
              rintro e w3 ⟨rfl, hA3, hF3, hU3⟩
              have hca := S.out.a.lt
              have S3 : Hid (Sgl W ca n (s.g, s.a) w3) := ⟨hA3, ⟨O.out.g, O.out.a⟩, Upd.below S.out.bel hU3 S.out.bel.size fun i hi => by omega⟩
              have F3 := Lib.hid hF3
              clear hA3 hF3 hU3 MT
              generalize hmb : wr.heap.size = mb at *
              clear hmb lmb
              have GR := greatest_ok w3 xa xc xs (RX.out.below S3.out.bel) LX.out.1 LX.out.2 HFM.out
              rw [HL.out] at GR
              have GR1 := Lib.hid GR
              rw [HL.out]
              clear GR
              go_wp2_with fail
              go_fit GR1.out
              rintro e w4 ⟨r, rfl, hG, hr8, hb⟩
              have HG := Lib.hid hG
              have S4 := Lib.hid (S3.out.below hb)
              have F4 := Lib.hid (F3.out.below hb)
              have R1 : Hid (r ≤ 2 * Bar.cnt n fun i => decide (0 ≤ s.m i)) := by
                rw [HL.out] at hG
                obtain ⟨f, hf, hs⟩ := hG.1
                have := Bar.half O.out MX.out hf
                rw [hs] at this
                exact this
              have R2 : Hid ((Bar.cnt n fun i => decide (0 ≤ s.m i)) ≤ r) := by
                rw [HL.out] at hG
                exact hG.2 s.m O.out.mat
              clear hb hG GR1 S3 F3
              go_wp2_with fail
              go_loopw [12, 67] (fun c i w => MyRel W ca n mb (s.g, s.a) s.m c i w) (fun _ i _ => n - (intOf i).toNat)
              case atStart => exact ⟨0, Nat.zero_le _, rfl, rfl, S4.out, F4.out⟩
              case round =>
                clear S4 F4
                obtain ⟨j, hj, rfl, rfl, hS, hF⟩ := hrel
                have S5 := Lib.hid hS; have F5 := Lib.hid hF
                clear hS hF
                by_cases hjt : j < n
                · have hc := F5.out.cell hjt
                  unfold iF at hc
                  have hcs := Lib.hid (cnt_succ j fun i => decide (0 ≤ s.m i))
                  have hcl := Bar.cnt_le j fun i => decide (0 ≤ s.m i)
                  by_cases hm : 0 ≤ s.m j
                  · have E : Hid (Bar.cnt (j + 1) (fun i => decide (0 ≤ s.m i)) = Bar.cnt j (fun i => decide (0 ≤ s.m i)) + 1) := by show _ = _; rw [hcs.out]; simp [hm]
                    generalize (Bar.cnt j fun i => decide (0 ≤ s.m i)) = cj at *
                    generalize s.m j = smj at *
                    go_wp2_with fail
                    go_roundw
                    case rel => exact ⟨j + 1, by omega, by go_num, by rw [E.out]; go_num, S5.out, F5.out⟩
                    case measure => simp [intOf]; omega
                  · have E : Hid (Bar.cnt (j + 1) (fun i => decide (0 ≤ s.m i)) = Bar.cnt j (fun i => decide (0 ≤ s.m i))) := by show _ = _; rw [hcs.out]; simp [hm]
                    generalize (Bar.cnt j fun i => decide (0 ≤ s.m i)) = cj at *
                    generalize s.m j = smj at *
                    go_wp2_with fail
                    go_roundw
                    case rel => exact ⟨j + 1, by omega, by go_num, by rw [E.out], S5.out, F5.out⟩
                    case measure => simp [intOf]; omega
                · obtain rfl : n = j := by omega
                  have MO := maximal_any wr xa (some ⟨mb, 0, none⟩) xc n xs ((List.range n).map s.m) (RX.out.below S5.out.bel) F5.out.sl LX.out.1 LX.out.2 (by simp [maxLen]; omega)
                  rw [HL.out, show ((List.range n).map s.m).length = n by simp] at MO
                  have MO1 := Lib.hid MO
                  have MOK : Hid (MaxOk xs ((List.range n).map s.m)) := by
                    have e := HL.out
                    subst e
                    exact (maxok_maxi HFM.out O.out).2 MX.out
                  have hcl := Bar.cnt_le n fun i => decide (0 ≤ s.m i)
                  have r1 := R1.out
                  have r2 := R2.out
                  generalize (Bar.cnt n fun i => decide (0 ≤ s.m i)) = cj at *
                  clear MO
                  go_wp2_with fail
                  go_fit MO1.out
                  rintro e w5 ⟨b, rfl, hbm, hb5⟩
                  have hbt : b = true := hbm.2 MOK.out
                  subst hbt
                  have S6 := Lib.hid (S5.out.below hb5)
                  clear hbm hb5
                  go_wp2_with fail
                  go_roundw
                  case rel => exact ⟨k + 1, (s.g, s.a), by omega, by go_num, S6.out⟩
                  case measure => simp [intOf]; omega
          · obtain rfl : lx = k := by omega
            go_wp2_with fail
            go_ret
            exact ⟨rfl, S.out.bel⟩
end Go.Proofs.Ytldgpdgoccccpaa
