/-
  The walk of the law CrossbarGreatest.
-/
import Derived.Test.YtldgpdgoccccpaaOpenB
import Derived.Test.YtldgpdgoccccpaaBarRefG
namespace Go.Proofs.Ytldgpdgoccccpaa
open Go.RowKit
set_option linter.unusedVariables false

theorem rep_bL (n : Nat) : List.replicate n false = bL n (fun _ => false) := by
  apply List.ext_getElem?
  intro i
  unfold bL
  rw [List.getElem?_map]
  by_cases h : i < n
  · rw [List.getElem?_replicate_of_lt h, List.getElem?_range h]; rfl
  · rw [List.getElem?_eq_none (by simpa using h), List.getElem?_eq_none (by simpa using h)]; rfl

set_option maxHeartbeats 8000000 in
set_option maxRecDepth 100000 in
theorem crossbarGreatest_walk (W : World) (a0 : Option Addr) (c0 : Nat) (x0 : List (RowOf Bool)) (s0 : Sl RowOf.val W a0 x0) (g0 : ∀ r ∈ x0, Sl Value.bool W (RowOf.a r) r.xs ∧ (∀ y ∈ r.xs, True) ∧ r.xs.length ≤ maxLen) (m0 : x0.length ≤ maxLen) :
    Calls Try.prog 7 #[.slice a0 x0.length c0] W fun e W' => e = .returned (.bool true) ∧ Below W.heap.size W W' := by
  obtain ⟨rq, ln⟩ := req_of s0 g0 m0
  have RQ := Lib.hid rq; have LN := Lib.hid ln
  have HAW := Lib.hid (awake_ok W)
  have mm0 := m0
  unfold maxLen at mm0
  clear s0 g0 rq ln m0
  cases hgr : grB x0 with
  | true =>
    have HGR := Lib.hid hgr; clear hgr
    go_enter Try.func7, Try.ntmps7
    go_wp2_with fail
    go_fit HAW.out
    rintro e w1 ⟨rfl, hb⟩
    have B1 := Lib.hid hb; clear hb
    have G := great_any w1 a0 c0 x0 (RQ.out.below B1.out) LN.out
    rw [HGR.out] at G
    have G1 := Lib.hid G; clear G
    go_wp2_with fail
    go_fit G1.out
    rintro e w2 ⟨rfl, rfl⟩
    go_wp2_with fail
    go_ret
    exact ⟨rfl, B1.out⟩
  | false =>
    have HGR := Lib.hid hgr
    obtain ⟨h10, _⟩ := grB_false hgr
    clear hgr
    by_cases h68 : 6 < x0.length ∧ x0.length ≤ 8
    · have i6 : (6 : Int) < (x0.length : Int) := by omega
      have i8 : (x0.length : Int) ≤ 8 := by omega
      clear h68
      go_enter Try.func7, Try.ntmps7
      go_wp2_with fail
      go_fit HAW.out
      rintro e w1 ⟨rfl, hb⟩
      have B1 := Lib.hid hb; clear hb
      have G := great_any w1 a0 c0 x0 (RQ.out.below B1.out) LN.out
      rw [HGR.out] at G
      have G1 := Lib.hid G; clear G
      go_wp2_with fail
      go_fit G1.out
      rintro e w2 ⟨rfl, rfl⟩
      go_wp2_with fail
      go_ret
      exact ⟨rfl, B1.out⟩
    · by_cases h8 : 8 < x0.length
      · have i6 : (6 : Int) < (x0.length : Int) := by omega
        have i8 : ¬ (x0.length : Int) ≤ 8 := by omega
        have i8b : (8 : Int) < (x0.length : Int) := by omega
        have hfm : fmB x0 = false := by
          have : decide (x0.length ≤ 8) = false := by simpa using h8
          rw [fmB, this, Bool.false_and]
        have HFM := Lib.hid hfm
        clear h68 hfm
        go_enter Try.func7, Try.ntmps7
        go_wp2_with fail
        go_fit HAW.out
        rintro e w1 ⟨rfl, hb⟩
        have B1 := Lib.hid hb; clear hb
        have G := great_any w1 a0 c0 x0 (RQ.out.below B1.out) LN.out
        rw [HGR.out] at G
        have G1 := Lib.hid G; clear G
        go_wp2_with fail
        go_fit G1.out
        rintro e w2 ⟨rfl, rfl⟩
        have GB := Lib.hid (greatest_bad w1 a0 c0 x0 (RQ.out.below B1.out) LN.out.1 LN.out.2 HFM.out)
        go_wp2_with fail
        go_fit GB.out
        rintro e w2 ⟨rfl, hb⟩
        have B2 := Lib.hid (B1.out.trans (hb.mono B1.out.size)); clear hb
        go_wp2_with fail
        go_ret
        exact ⟨rfl, B2.out⟩
      · have i6 : ¬ (6 : Int) < (x0.length : Int) := by omega
        have i8b : ¬ (8 : Int) < (x0.length : Int) := by omega
        have h8' : x0.length ≤ 8 := by omega
        have hd : decide (x0.length ≤ 8) = true := by simpa using h8'
        cases hsq : sqB x0 x0.length with
        | false =>
          have hfm : fmB x0 = false := by rw [fmB, hd, Bool.true_and]; exact hsq
          have HFM := Lib.hid hfm; have HSQ := Lib.hid hsq
          clear h68 hfm hsq hd
          go_enter Try.func7, Try.ntmps7
          go_wp2_with fail
          go_fit HAW.out
          rintro e w1 ⟨rfl, hb⟩
          have B1 := Lib.hid hb; clear hb
          have G := great_any w1 a0 c0 x0 (RQ.out.below B1.out) LN.out
          rw [HGR.out] at G
          have G1 := Lib.hid G; clear G
          go_wp2_with fail
          go_fit G1.out
          rintro e w2 ⟨rfl, rfl⟩
          have GB := Lib.hid (greatest_bad w1 a0 c0 x0 (RQ.out.below B1.out) LN.out.1 LN.out.2 HFM.out)
          go_wp2_with fail
          go_fit GB.out
          rintro e w2 ⟨rfl, hb⟩
          have B2 := Lib.hid (B1.out.trans (hb.mono B1.out.size)); clear hb
          have Q := refsq_any w2 a0 c0 x0.length x0 (RQ.out.below B2.out) LN.out.1 LN.out.2
          rw [HSQ.out] at Q
          have Q1 := Lib.hid Q; clear Q
          go_wp2_with fail
          go_fit Q1.out
          rintro e w3 ⟨rfl, rfl⟩
          go_wp2_with fail
          go_ret
          exact ⟨rfl, B2.out⟩
        | true =>
          have hfm : fmB x0 = true := by rw [fmB, hd, Bool.true_and]; exact hsq
          have HFM := Lib.hid hfm; have HSQ := Lib.hid hsq
          clear h68 hfm hsq hd
          have hmk := fun w => make_bools w x0.length (by omega)
          generalize hLL : (List.replicate x0.length false).map Value.bool = LL at hmk
          have HLL := Lib.hid hLL
          clear hLL
          go_enter Try.func7, Try.ntmps7
          go_wp2_with fail
          go_fit HAW.out
          rintro e w1 ⟨rfl, hb⟩
          have B1 := Lib.hid hb; clear hb
          have G := great_any w1 a0 c0 x0 (RQ.out.below B1.out) LN.out
          rw [HGR.out] at G
          have G1 := Lib.hid G; clear G
          go_wp2_with fail
          go_fit G1.out
          rintro e w2 ⟨rfl, rfl⟩
          have GB := Lib.hid (greatest_ok w1 a0 c0 x0 (RQ.out.below B1.out) LN.out.1 LN.out.2 HFM.out)
          go_wp2_with fail
          go_fit GB.out
          rintro e w2 ⟨r, rfl, hG, hr8, hb⟩
          have B2 := Lib.hid (B1.out.trans (hb.mono B1.out.size)); clear hb
          have HG := Lib.hid hG; clear hG
          have Q := refsq_any w2 a0 c0 x0.length x0 (RQ.out.below B2.out) LN.out.1 LN.out.2
          rw [HSQ.out] at Q
          have Q1 := Lib.hid Q; clear Q
          have B3 : Hid (Below W.heap.size W (w2.alloc (.cells LL.toArray 4))) := B2.out.alloc B2.out.size _
          have RG := refg_any a0 c0 x0.length x0 rfl (fmB_true HFM.out).2 h8' x0.length 0 (by omega) (w2.alloc (.cells LL.toArray 4)) (fun _ => false) (some ⟨w2.heap.size, 0, none⟩) x0.length (RQ.out.below B3.out) (by
            have h := Blk.new w2 4 LL
            rw [← HLL.out, rep_bL] at h
            rw [← HLL.out, rep_bL]
            exact Blk.sl h)
          rw [← HG.out.uniq (Bar.gm_great (reqF x0) x0.length)] at RG
          have RG1 := Lib.hid RG; clear RG
          go_wp2_with fail
          go_fit Q1.out
          rintro e w3 ⟨rfl, rfl⟩
          go_wp2_with fail
          go_fit RG1.out
          rintro e w4 ⟨rfl, hb⟩
          have B4 := Lib.hid (B3.out.trans (hb.mono B3.out.size)); clear hb
          go_wp2_with fail
          go_ret
          exact ⟨by simp, B4.out⟩
end Go.Proofs.Ytldgpdgoccccpaa
