/-
  The walk of the law CreditAudits.
-/
import Derived.Test.YtdfmahedhadfoaaOne
namespace Go.Proofs.Ytdfmahedhadfoaa
open Go.RowKit
set_option linter.unusedVariables false

theorem u8_bounds {n : Int} (h : (Lit.int .u8 n).wf = true) : 0 ≤ n ∧ n ≤ 255 := by simpa [Lit.wf, IntKind.min, IntKind.max, IntKind.signed, IntKind.bits] using h
theorem i64_bounds {n : Int} (h : (Lit.int .i64 n).wf = true) : -9223372036854775808 ≤ n ∧ n ≤ 9223372036854775807 := by simpa [Lit.wf, IntKind.min, IntKind.max, IntKind.signed, IntKind.bits] using h

def RecRel (W : World) (g cb n r : Nat) (i : Value) (w : World) : Prop := ∃ j : Nat, j ≤ r ∧ i = .int .i64 j ∧ G1 W g cb n j 0 w
def FreRel (W : World) (g cb n r f : Nat) (i : Value) (w : World) : Prop := ∃ j : Nat, j ≤ f ∧ i = .int .i64 j ∧ G1 W g cb n r j w

set_option maxHeartbeats 4000000 in
set_option maxRecDepth 100000 in
theorem creditAudits_walk (W : World) (rm : Int) (w0 : (Lit.int .u8 rm).wf = true) (rc : Int) (w1 : (Lit.int .u8 rc).wf = true) (fr : Int) (w2 : (Lit.int .u8 fr).wf = true) (lo : Int) (w3 : (Lit.int .u8 lo).wf = true) (odd : Int) (w4 : (Lit.int .i64 odd).wf = true) :
    Calls Try.prog 4 #[.int .u8 rm, .int .u8 rc, .int .u8 fr, .int .u8 lo, .int .i64 odd] W fun e W' => e = .returned (.bool true) ∧ Below W.heap.size W W' := by
  have HAW := Lib.hid (awake_ok W)
  obtain ⟨p0, p1⟩ := u8_bounds w0
  obtain ⟨p2, p3⟩ := u8_bounds w1
  obtain ⟨p4, p5⟩ := u8_bounds w2
  obtain ⟨p6, p7⟩ := u8_bounds w3
  obtain ⟨p8, p9⟩ := i64_bounds w4
  clear w0 w1 w2 w3 w4
  obtain ⟨n, hn⟩ : ∃ n : Nat, 1 + rm % 8 = n := ⟨(1 + rm % 8).toNat, by omega⟩
  have hn1 : 1 ≤ n := by omega
  have hn8 : n ≤ 8 := by omega
  obtain ⟨r, hr⟩ : ∃ r : Nat, rc % ((n : Int) + 1) = r := ⟨_, (Int.toNat_of_nonneg (Int.emod_nonneg _ (by omega))).symm⟩
  have hrn : r ≤ n := by have := Int.emod_lt_of_pos rc (show 0 < (n : Int) + 1 by omega); omega
  obtain ⟨f, hf⟩ : ∃ f : Nat, fr % ((r : Int) + 1) = f := ⟨_, (Int.toNat_of_nonneg (Int.emod_nonneg _ (by omega))).symm⟩
  have hfr : f ≤ r := by have := Int.emod_lt_of_pos fr (show 0 < (r : Int) + 1 by omega); omega
  obtain ⟨k, hk⟩ : ∃ k : Nat, lo % ((n : Int) + f - r + 1) = k := ⟨_, (Int.toNat_of_nonneg (Int.emod_nonneg _ (by omega))).symm⟩
  have hkn : k ≤ n + f - r := by have := Int.emod_lt_of_pos lo (show 0 < (n : Int) + f - r + 1 by omega); omega
  have HN := Lib.hid hn; have HR := Lib.hid hr; have HF := Lib.hid hf; have HK := Lib.hid hk
  clear hn hr hf hk
  go_enter Try.func4, Try.ntmps4
  go_wp2_with fail
  refine HAW.out.mono ?_
  rintro e w1 ⟨rfl, hb⟩
  have B1 := Lib.hid hb; clear hb
  have NG := Lib.hid (newG_one w1 n hn1 (by omega))
  have hn := HN.out
  go_wp2_with fail
  clear hn
  refine NG.out.mono ?_
  rintro e w2 ⟨rfl, hG⟩
  have G2 : Hid (G1 W (w1.heap.size + 2) (w1.heap.size + 1) n 0 0 w2) := ⟨hG.h.base B1.out.size, B1.out.trans (hG.bel.mono B1.out.size)⟩
  clear hG
  generalize w1.heap.size + 2 = g at *
  generalize w1.heap.size + 1 = cb at *
  go_upto_region 8 with (fail)
  rw [HR.out]
  go_wp2_with fail
  rw [HF.out]
  go_loopw [52] (fun i w => RecRel W g cb n r i w) (fun i _ => r - (intOf i).toNat)
  case atStart => exact ⟨0, Nat.zero_le _, rfl, G2.out⟩
  case round =>
    obtain ⟨j, hj, rfl, hG⟩ := hrel
    have HG := Lib.hid hG; clear hG
    by_cases hlt : j < r
    · have P := Lib.hid (g1_rec HG.out ⟨by dsimp only; omega, by dsimp only; omega, by simp, by dsimp only; omega, by dsimp only; omega, by simp⟩ (by omega))
      go_wp2_with fail
      refine P.out.mono ?_
      rintro e w3 ⟨rfl, hG⟩
      have G3 := Lib.hid hG; clear hG
      go_wp2_with fail
      go_roundw
      case rel => exact ⟨j + 1, by omega, by go_num, G3.out.cast rfl (by omega) rfl⟩
      case measure => simp [intOf]; omega
    · obtain rfl : j = r := by omega
      go_wp2_with fail
      go_loopw [58] (fun i w => FreRel W g cb n j f i w) (fun i _ => f - (intOf i).toNat)
      case atStart => exact ⟨0, Nat.zero_le _, rfl, HG.out⟩
      case round =>
        obtain ⟨i, hi, rfl, hG⟩ := hrel
        have HG2 := Lib.hid hG; clear hG
        by_cases hlt2 : i < f
        · have P := Lib.hid (g1_fre HG2.out ⟨by dsimp only; omega, by dsimp only; omega, by dsimp only; omega, by dsimp only; omega, by dsimp only; omega, by dsimp only; omega⟩ (by omega))
          go_wp2_with fail
          refine P.out.mono ?_
          rintro e w3 ⟨rfl, hG⟩
          have G3 := Lib.hid hG; clear hG
          go_wp2_with fail
          go_roundw
          case rel => exact ⟨i + 1, by omega, by go_num, G3.out.cast rfl rfl (by omega)⟩
          case measure => simp [intOf]; omega
        · obtain rfl : i = f := by omega
          have OK : GOk ⟨n, j, i⟩ := ⟨by dsimp only; omega, by dsimp only; omega, by dsimp only; omega, by dsimp only; omega, by dsimp only; omega, by dsimp only; omega⟩
          have HOK := Lib.hid OK; clear OK
          have A1 := Lib.hid fun w (h : G1 W g cb n j i w) => g1_aud ((j : Int) + k) k h HOK.out (by omega) (by omega) (by omega)
          have OK2 : GOk ⟨n, j + k, i + k⟩ := ⟨by dsimp only; omega, by dsimp only; omega, by dsimp only; omega, by dsimp only; omega, by dsimp only; omega, by dsimp only; omega⟩
          have HOK2 := Lib.hid OK2; clear OK2
          have A2 := Lib.hid fun w (h : G1 W g cb n (j + k) (i + k) w) => g1_aud ((j : Int) + k) 0 h HOK2.out (by omega) (by omega) (by omega)
          have HE := Lib.hid fun w (h : G1 W g cb n (j + k) (i + k) w) => g1_held h HOK2.out
          have LI := Lib.hid fun w (h : G1 W g cb n (j + k) (i + k) w) => g1_lim h HOK2.out
          have t1 : ((k : Int) == k) = true := by simp
          have t2 : (((j : Int) + k - (i + k)) == (j : Int) - i) = true := by rw [beq_iff_eq]; omega
          have t3 : (((n : Int) + (i + k)) == (n : Int) + i + k) = true := by rw [beq_iff_eq]; omega
          have hcase : Hid (odd < j ∨ (¬ odd < j ∧ (n : Int) + i < odd) ∨ (¬ odd < j ∧ ¬ (n : Int) + i < odd)) := by show _ ∨ _ ∨ _; omega
          rcases hcase.out with hc | ⟨hc, hc2⟩ | ⟨hc, hc2⟩
          · have AB := Lib.hid (g1_audbad odd HG2.out HOK.out (.inl hc))
            clear hcase
            go_upto_region 18 with (fail)
            rw [HK.out]
            go_wp2_with fail
            refine AB.out.mono ?_
            rintro e w3 ⟨rfl, hG⟩
            have G3 := Lib.hid hG; clear hG
            go_wp2_with fail
            refine (A1.out _ G3.out).mono ?_
            rintro e w4 ⟨rfl, hG⟩
            have G4 := Lib.hid hG; clear hG
            go_wp2_with fail
            refine (A2.out _ G4.out).mono ?_
            rintro e w5 ⟨rfl, hG⟩
            have G5 := Lib.hid (hG.cast rfl rfl (show (i : Int) + k + 0 = i + k by omega)); clear hG
            go_wp2_with fail
            refine (HE.out _ G5.out).mono ?_
            rintro e w6 ⟨rfl, hG⟩
            have G6 := Lib.hid hG; clear hG
            go_wp2_with fail
            refine (LI.out _ G6.out).mono ?_
            rintro e w7 ⟨rfl, hG⟩
            have G7 := Lib.hid hG; clear hG
            go_wp2_with fail
            go_ret
            exact ⟨rfl, G7.out.bel⟩
          · have AB := Lib.hid (g1_audbad odd HG2.out HOK.out (.inr hc2))
            clear hcase
            go_upto_region 18 with (fail)
            rw [HK.out]
            go_wp2_with fail
            refine AB.out.mono ?_
            rintro e w3 ⟨rfl, hG⟩
            have G3 := Lib.hid hG; clear hG
            go_wp2_with fail
            refine (A1.out _ G3.out).mono ?_
            rintro e w4 ⟨rfl, hG⟩
            have G4 := Lib.hid hG; clear hG
            go_wp2_with fail
            refine (A2.out _ G4.out).mono ?_
            rintro e w5 ⟨rfl, hG⟩
            have G5 := Lib.hid (hG.cast rfl rfl (show (i : Int) + k + 0 = i + k by omega)); clear hG
            go_wp2_with fail
            refine (HE.out _ G5.out).mono ?_
            rintro e w6 ⟨rfl, hG⟩
            have G6 := Lib.hid hG; clear hG
            go_wp2_with fail
            refine (LI.out _ G6.out).mono ?_
            rintro e w7 ⟨rfl, hG⟩
            have G7 := Lib.hid hG; clear hG
            go_wp2_with fail
            go_ret
            exact ⟨rfl, G7.out.bel⟩
          · clear hcase
            go_upto_region 18 with (fail)
            rw [HK.out]
            go_wp2_with fail
            refine (A1.out _ HG2.out).mono ?_
            rintro e w4 ⟨rfl, hG⟩
            have G4 := Lib.hid hG; clear hG
            go_wp2_with fail
            refine (A2.out _ G4.out).mono ?_
            rintro e w5 ⟨rfl, hG⟩
            have G5 := Lib.hid (hG.cast rfl rfl (show (i : Int) + k + 0 = i + k by omega)); clear hG
            go_wp2_with fail
            refine (HE.out _ G5.out).mono ?_
            rintro e w6 ⟨rfl, hG⟩
            have G6 := Lib.hid hG; clear hG
            go_wp2_with fail
            refine (LI.out _ G6.out).mono ?_
            rintro e w7 ⟨rfl, hG⟩
            have G7 := Lib.hid hG; clear hG
            go_wp2_with fail
            go_ret
            exact ⟨rfl, G7.out.bel⟩
end Go.Proofs.Ytdfmahedhadfoaa
