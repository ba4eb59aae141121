/-
  The walk of the law CreditWhole.
-/
import Derived.Test.YtdfmahedhadfoaaLawSafe
namespace Go.Proofs.Ytdfmahedhadfoaa
open Go.RowKit
set_option linter.unusedVariables false

def WhRel (W : World) (g cb t ct : Nat) (n b c s m : Int) (f : Nat) (i : Value) (w : World) : Prop := ∃ j : Nat, j ≤ f ∧ i = .int .i64 j ∧ St W g cb t ct n (b + j) c s m w
def WiRel (W : World) (g cb t ct : Nat) (n c s m : Int) (f : Nat) (i : Value) (w : World) : Prop := ∃ j : Nat, j ≤ f ∧ i = .int .i64 j ∧ St W g cb t ct n (s + j) c (s + j) m w

set_option maxHeartbeats 8000000 in
set_option maxRecDepth 100000 in
theorem creditWhole_walk (W : World) (rm : Int) (w0 : (Lit.int .u8 rm).wf = true) (a1 : Option Addr) (c1 : Nat) (es : List Int) (s1 : Sl (Value.int .u8) W a1 es) (g1 : ∀ y ∈ es, IntOk .u8 y) (m1 : es.length ≤ maxLen) :
    Calls Try.prog 10 #[.int .u8 rm, .slice a1 es.length c1] W fun e W' => e = .returned (.bool true) ∧ Below W.heap.size W W' := by
  have HAW := Lib.hid (awake_ok W)
  have S1 := Lib.hid s1; have G1' := Lib.hid fun e he => u8_bounds (g1 e he)
  obtain ⟨p0, p1⟩ := u8_bounds w0
  clear s1 g1 w0
  unfold maxLen at m1
  obtain ⟨n, hn⟩ : ∃ n : Nat, 1 + rm % 8 = n := ⟨(1 + rm % 8).toNat, by omega⟩
  have hn1 : 1 ≤ n := by omega
  have hn8 : n ≤ 8 := by omega
  have HN := Lib.hid hn; clear hn
  by_cases h60 : (60 : Int) < (es.length : Int)
  · go_enter Try.func10, Try.ntmps10
    go_wp2_with fail
    refine HAW.out.mono ?_
    rintro e w1 ⟨rfl, hb⟩
    have B1 := Lib.hid hb; clear hb
    go_wp2_with fail
    go_ret
    exact ⟨rfl, B1.out⟩
  go_enter Try.func10, Try.ntmps10
  go_wp2_with fail
  refine HAW.out.mono ?_
  rintro e w1 ⟨rfl, hb⟩
  have B1 := Lib.hid hb; clear hb
  have ST := Lib.hid (story_any w1 n a1 c1 es (S1.out.below B1.out) G1'.out hn1 hn8 (by omega))
  have hn := HN.out
  go_wp2_with fail
  clear hn
  refine ST.out.mono ?_
  rintro e w2 ⟨g, cb, t, ct, BL, b, c, s, m, fl, rfl, hA, hS, hO, hfl, hc39⟩
  have hW := B1.out.size
  have S2 : Hid (St W g cb t ct n b c s m w2) := ⟨⟨hS.hG.hg, hS.hG.hc, hS.hG.ne, by have := hS.hG.b1; omega, by have := hS.hG.b2; omega⟩, ⟨hS.hT.hg, hS.hT.hc, hS.hT.ne, by have := hS.hT.b1; omega, by have := hS.hT.b2; omega⟩, B1.out.trans (hS.bel.mono hW)⟩
  have A := Lib.hid hA; have O := Lib.hid hO
  obtain ⟨o1, o2, o3, o4, o5, o6, o7, o8, o9⟩ := hO
  clear hS hA ST
  obtain ⟨f, rfl⟩ := Int.eq_ofNat_of_zero_le o5
  go_wp2_with fail
  go_loopw [34] (fun i w => WhRel W g cb t ct n b c s m f i w) (fun i _ => f - (intOf i).toNat)
  case atStart => exact ⟨0, Nat.zero_le _, rfl, S2.out.cast rfl (by omega) rfl rfl rfl⟩
  case round =>
    obtain ⟨j, hj, rfl, hS⟩ := hrel
    have S3 := Lib.hid hS; clear hS S2
    by_cases hlt : j < f
    · have P := Lib.hid (st_rec S3.out A.out ⟨o1, by dsimp only; omega, o3, by dsimp only; omega, by dsimp only; omega, by dsimp only; omega⟩ (by omega))
      go_wp2_with fail
      refine P.out.mono ?_
      rintro e w5 ⟨rfl, hS, hU⟩
      have S5 := Lib.hid hS; clear hS hU
      go_wp2_with fail
      go_roundw
      case rel => exact ⟨j + 1, by omega, by go_num, S5.out.cast rfl (by omega) rfl rfl rfl⟩
      case measure => simp [intOf]; omega
    · obtain rfl : j = f := by omega
      obtain ⟨b1, hb1⟩ : ∃ b1 : Int, b + j = b1 := ⟨_, rfl⟩
      obtain ⟨d1, hd1⟩ : ∃ d1 : Int, c + (s - b1) = d1 := ⟨_, rfl⟩
      obtain ⟨H, hH⟩ : ∃ H : Nat, (n : Int) - (b1 - c) = H := ⟨((n : Int) - (b1 - c)).toNat, by omega⟩
      have hH8 : H ≤ 8 := by omega
      have T0 : Hid (St W g cb t ct n b1 c s m wr) := S3.out.cast rfl hb1 rfl rfl rfl
      have K0 : GOk ⟨n, b1, c⟩ := ⟨o1, by dsimp only; omega, o3, by dsimp only; omega, by dsimp only; omega, by dsimp only; omega⟩
      have K1 : GOk ⟨n, s, d1⟩ := ⟨o1, by dsimp only; omega, by dsimp only; omega, by dsimp only; omega, by dsimp only; omega, by dsimp only; omega⟩
      have KT : TOk ⟨s, m⟩ := ⟨by dsimp only; omega, o7, by dsimp only; omega⟩
      have KT2 : TOk ⟨s, (n : Int) + d1⟩ := ⟨by dsimp only; omega, by dsimp only; omega, by dsimp only; omega⟩
      have q1 : b1 ≤ s := by omega
      have q2 : s ≤ (n : Int) + c := by omega
      have q3 : m ≤ (n : Int) + d1 := by omega
      have q4 : d1 ≤ 4000 := by omega
      have q5 : 0 ≤ d1 := by omega
      have q6 : s ≤ n + d1 := by omega
      have q7 : d1 ≤ s := by omega
      have q8 : Hid ((n : Int) + d1 - s = H) := by show _ = _; omega
      have t1 : ((s - d1) != (b1 - c)) = false := by rw [bne_eq_false_iff_eq]; omega
      have t2 : (((n : Int) + d1 - s) != ((n : Int) - (b1 - c))) = false := by rw [bne_eq_false_iff_eq]; omega
      have q9 : 0 ≤ s - b1 := by omega
      have q10 : s - b1 ≤ 4000 := by omega
      have q11 : 0 ≤ b1 - c := by omega
      have q12 : b1 - c ≤ n := by omega
      have HD := Lib.hid hd1; have HH := Lib.hid hH
      clear hb1 hd1 hH S3
      have P1 := Lib.hid (st_held T0.out K0)
      go_wp2_with fail
      refine P1.out.mono ?_
      rintro e w5 ⟨rfl, hS, hU⟩
      have S5 := Lib.hid hS; clear hS hU
      have P2 := Lib.hid (st_sent S5.out KT)
      go_wp2_with fail
      refine P2.out.mono ?_
      rintro e w6 ⟨rfl, hS, hU⟩
      have S6 := Lib.hid hS; clear hS hU
      have P3 := Lib.hid (st_aud s (s - b1) S6.out A.out K0 q1 q2 rfl)
      go_wp2_with fail
      refine P3.out.mono ?_
      rintro e w7 ⟨rfl, hS, hU⟩
      have S7 := Lib.hid (hS.cast rfl rfl HD.out rfl rfl); clear hS hU
      have P4 := Lib.hid (st_held S7.out K1)
      go_wp2_with fail
      refine P4.out.mono ?_
      rintro e w8 ⟨rfl, hS, hU⟩
      have S8 := Lib.hid hS; clear hS hU
      have P5 := Lib.hid (st_lim S8.out K1)
      go_wp2_with fail
      refine P5.out.mono ?_
      rintro e w9 ⟨rfl, hS, hU⟩
      have S9 := Lib.hid hS; clear hS hU
      have P6 := Lib.hid (st_rai ((n : Int) + d1) S9.out A.out KT (by omega) (by omega))
      go_wp2_with fail
      refine P6.out.mono ?_
      rintro e w10 ⟨rfl, hS, hU⟩
      have S10 := Lib.hid (hS.cast rfl rfl rfl rfl (show max m ((n : Int) + d1) = n + d1 by omega)); clear hS hU
      have P7 := Lib.hid (st_left S10.out KT2)
      go_wp2_with fail
      refine P7.out.mono ?_
      rintro e w11 ⟨rfl, hS, hU⟩
      have S11 := Lib.hid hS; clear hS hU
      go_upto_region 19 with (fail)
      rw [HH.out]
      go_loopw [79] (fun i w => WiRel W g cb t ct n d1 s ((n : Int) + d1) H i w) (fun i _ => H - (intOf i).toNat)
      case atStart => exact ⟨0, Nat.zero_le _, rfl, S11.out.cast rfl (by omega) rfl (by omega) rfl⟩
      case round =>
        obtain ⟨i, hi, rfl, hS⟩ := hrel
        have S12 := Lib.hid hS; clear hS
        have hq8 := q8.out
        have KA : GOk ⟨n, s + i, d1⟩ := ⟨o1, by dsimp only; omega, q5, by dsimp only; omega, by dsimp only; omega, by dsimp only; omega⟩
        have KB : TOk ⟨s + i, (n : Int) + d1⟩ := ⟨by dsimp only; omega, by dsimp only; omega, by dsimp only; omega⟩
        by_cases hlt2 : i < H
        · have KC : TOk ⟨s + i + 1, (n : Int) + d1⟩ := ⟨by dsimp only; omega, by dsimp only; omega, by dsimp only; omega⟩
          have R1 := Lib.hid (st_tak S12.out A.out KB (by omega))
          have R2 := Lib.hid fun w h => st_rec (W := W) (g := g) (cb := cb) (t := t) (ct := ct) (n := n) (b := s + i) (c := d1) (s := s + i + 1) (m := (n : Int) + d1) (w := w) h A.out KA (by omega)
          clear hq8
          go_wp2_with fail
          refine R1.out.mono ?_
          rintro e w12 ⟨rfl, hS, hU⟩
          have S13 := Lib.hid hS; clear hS hU
          go_wp2_with fail
          refine (R2.out _ S13.out).mono ?_
          rintro e w13 ⟨rfl, hS, hU⟩
          have S14 := Lib.hid hS; clear hS hU
          go_wp2_with fail
          go_roundw
          case rel => exact ⟨i + 1, by omega, by go_num, S14.out.cast rfl (by omega) rfl (by omega) rfl⟩
          case measure => simp [intOf]; omega
        · obtain rfl : i = H := by omega
          have R1 := Lib.hid (st_takfull S12.out A.out KB (by omega))
          have R2 := Lib.hid fun w h => st_recfull (W := W) (g := g) (cb := cb) (t := t) (ct := ct) (n := n) (b := s + i) (c := d1) (s := s + i) (m := (n : Int) + d1) (w := w) h A.out KA (by omega)
          have R3 := Lib.hid fun w h => st_held (W := W) (g := g) (cb := cb) (t := t) (ct := ct) (n := n) (b := s + i) (c := d1) (s := s + i) (m := (n : Int) + d1) (w := w) h KA
          have t3 : ((s + (i : Int) - d1) == (n : Int)) = true := by rw [beq_iff_eq]; omega
          clear hq8 t1 t2
          go_wp2_with fail
          refine R1.out.mono ?_
          rintro e w12 ⟨rfl, hS, hU⟩
          have S13 := Lib.hid hS; clear hS hU
          go_wp2_with fail
          refine (R2.out _ S13.out).mono ?_
          rintro e w13 ⟨rfl, hS, hU⟩
          have S14 := Lib.hid hS; clear hS hU
          go_wp2_with fail
          refine (R3.out _ S14.out).mono ?_
          rintro e w14 ⟨rfl, hS, hU⟩
          have S15 := Lib.hid hS; clear hS hU
          go_wp2_with fail
          go_ret
          exact ⟨rfl, S15.out.bel⟩
end Go.Proofs.Ytdfmahedhadfoaa
