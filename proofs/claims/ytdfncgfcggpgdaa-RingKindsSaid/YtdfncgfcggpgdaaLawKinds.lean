/-
  The walk of the law RingKinds.
-/
import Derived.Test.YtdfncgfcggpgdaaAwake
import Derived.Test.YtdfncgfcggpgdaaRingB
import Derived.Test.YtdfncgfcggpgdaaSlices
namespace Go.Proofs.Ytdfncgfcggpgdaa
open Go.RowKit
set_option linter.unusedVariables false

abbrev RB (w : World) (base b room : Nat) (v : Value) (xs : List (RowOf Int)) : Prop := RingAt (RowOf.val (α := Int)) 40 85 w base b room v xs

def KiMem (W : World) (B : Nat) (xs : List (RowOf Int)) (w : World) : Prop := (∃ v, RB w B B 64 v xs) ∧ Below W.heap.size W w ∧ B ≤ w.heap.size
def KiRel1 (W : World) (B : Nat) (l : List (RowOf Int)) (i : Value) (w : World) : Prop := ∃ k : Nat, k ≤ l.length ∧ i = .int .i64 k ∧ KiMem W B (l.take k) w
def KiRel2 (W : World) (B : Nat) (l : List (RowOf Int)) (i : Value) (w : World) : Prop := ∃ k : Nat, k ≤ l.length ∧ i = .int .i64 k ∧ KiMem W B (l.drop k) w

set_option maxHeartbeats 2000000 in
set_option maxRecDepth 100000 in
theorem ringKinds_walk (W : World) (a0 : Option Addr) (c0 : Nat) (l : List (RowOf Int)) (s0 : Sl RowOf.val W a0 l)
    (g0 : ∀ r ∈ l, Sl (Value.int .u8) W (RowOf.a r) r.xs ∧ (∀ y ∈ r.xs, IntOk .u8 y) ∧ r.xs.length ≤ maxLen) (m0 : l.length ≤ maxLen) :
    Calls Try.prog 4 #[.slice a0 l.length c0] W fun e W' => e = .returned (.bool true) ∧ Below W.heap.size W W' := by
  have HAW := Lib.hid awake_ok
  have S0 := Lib.hid s0; have G0 := Lib.hid g0
  clear s0 g0 m0
  go_enter Try.func4, Try.ntmps4
  go_wp2_with fail
  refine (HAW.out W).mono ?_
  rintro e w1 ⟨rfl, hb⟩
  have B1 := Lib.hid hb; clear hb
  by_cases hbig : (64 : Int) < l.length
  · go_wp2_with fail
    refine (HAW.out w1).mono ?_
    rintro e w2 ⟨rfl, hb⟩
    have B2 := Lib.hid (B1.out.trans (hb.mono B1.out.size)); clear hb
    go_wp2_with fail
    go_ret
    exact ⟨rfl, B2.out⟩
  · have hl : l.length ≤ 64 := by omega
    have N0 := Lib.hid (newB_ok 64 w1.heap.size w1 (by decide) (by decide))
    have hBW := B1.out.size
    go_wp2_with fail
    refine N0.out.mono ?_
    rintro e w2 ⟨rfl, hR, hB, hz⟩
    have M0 : Hid (KiMem W w1.heap.size (l.take 0) w2) := ⟨⟨_, hR⟩, B1.out.trans (hB.mono B1.out.size), by omega⟩
    clear hR hB hz
    generalize w1.heap.size = B at *
    go_wp2_with fail
    go_loopw [31] (fun i wr => KiRel1 W B l i wr) (fun i _ => l.length - (intOf i).toNat)
    case atStart => exact ⟨0, Nat.zero_le _, rfl, M0.out⟩
    case round =>
      obtain ⟨k, hk, rfl, ⟨v, hR⟩, hbel, hBr⟩ := hrel
      have HR := Lib.hid hR; have HB := Lib.hid hbel
      clear hR hbel
      by_cases hlt : k < l.length
      · obtain ⟨r, er, okr, cr⟩ := (S0.out.below HB.out).get (k := k) hlt
        unfold RowOf.val at cr
        have P := Lib.hid (putB_ok wr B B 64 v (l.take k) r HR.out (by simp; omega) (by decide) hBr)
        have htk : Hid (l.take k ++ [r] = l.take (k + 1)) := by
          show _ = _
          rw [List.take_add_one, er.out]; rfl
        go_wp2_with fail
        refine P.out.mono ?_
        rintro e w3 ⟨v', rfl, hR', hU, _⟩
        have M3 : Hid (KiMem W B (l.take (k + 1)) w3) := ⟨⟨v', by rw [← htk.out]; exact hR'⟩, (ring_below (B := W.heap.size) HB.out HR.out hU hBW hBW HB.out.size), by have := hU.size; omega⟩
        clear hR' hU
        go_wp2_with fail
        go_roundw
        case rel => exact ⟨k + 1, by omega, by go_num, M3.out⟩
        case measure => simp [intOf]; omega
      · obtain rfl : k = l.length := by omega
        obtain ⟨wo, rfl⟩ : ∃ wo : World, wo = wr := ⟨_, rfl⟩
        rw [List.take_of_length_le (Nat.le_refl _)] at HR
        go_wp2_with fail
        go_loopw [42] (fun i wr => KiRel2 W B l i wr) (fun i _ => l.length - (intOf i).toNat)
        case atStart => exact ⟨0, Nat.zero_le _, rfl, ⟨v, HR.out⟩, HB.out, hBr⟩
        case round =>
          obtain ⟨j, hj, rfl, ⟨v2, hR2⟩, hbel2, hBr2⟩ := hrel
          have HB2 := Lib.hid hbel2
          by_cases hjl : j < l.length
          · obtain ⟨r, er, okr, cr⟩ := (S0.out.below HB2.out).get (k := j) hjl
            unfold RowOf.val at cr
            have hdr : l.drop j = r :: l.drop (j + 1) := by
              rw [List.drop_eq_getElem_cons hjl]
              congr 1
              have := er.out
              rw [List.getElem?_eq_getElem hjl] at this
              exact Option.some.inj this
            rw [hdr] at hR2
            have HR2 := Lib.hid hR2
            have hrow := G0.out r (List.mem_of_getElem? er.out)
            have GR := Lib.hid hrow
            have PK := Lib.hid (peekB_some wr B B 64 v2 r (l.drop (j + 1)) HR2.out)
            have TK := Lib.hid (takeB_some wr B B 64 v2 r (l.drop (j + 1)) HR2.out)
            clear hdr hR2 hrow hbel2
            go_wp2_with fail
            refine PK.out.mono ?_
            rintro e w3 ⟨rfl, rfl⟩
            go_wp2_with fail
            refine TK.out.mono ?_
            rintro e w4 ⟨v4, rfl, hR4, hU4, _⟩
            have M4 : Hid (KiMem W B (l.drop (j + 1)) w4) := ⟨⟨v4, hR4⟩, (ring_below (B := W.heap.size) HB2.out HR2.out hU4 hBW hBW HB2.out.size), by have := hU4.size; omega⟩
            clear hR4 hU4
            have E1 := Lib.hid fun w (h : Below W.heap.size W w) => equalByte_any w r.a r.a r.c r.c r.xs r.xs (GR.out.1.below h) (GR.out.1.below h) GR.out.2.2
            have hdt : decide (r.xs = r.xs) = true := by simp
            rw [hdt] at E1
            clear hdt
            go_wp2_with fail
            refine (E1.out w4 M4.out.2.1).mono ?_
            rintro e w5 ⟨rfl, hq5⟩
            have B5 := Lib.hid (M4.out.2.1.trans (hq5.below _))
            go_wp2_with fail
            refine (E1.out w5 B5.out).mono ?_
            rintro e w6 ⟨rfl, hq6⟩
            have M6 : Hid (KiMem W B (l.drop (j + 1)) w6) := by
              obtain ⟨⟨v, h⟩, hb, hs⟩ := M4.out
              have q := hq5.trans hq6
              exact ⟨⟨v, h.qt q⟩, hb.trans (q.below _), by rw [q.heap]; exact hs⟩
            clear hq5 hq6
            go_wp2_with fail
            go_roundw
            case rel => exact ⟨j + 1, by omega, by go_num, M6.out⟩
            case measure => simp [intOf]; omega
          · obtain rfl : j = l.length := by omega
            rw [List.drop_of_length_le (Nat.le_refl _)] at hR2
            have TN := Lib.hid (takeB_none wr B B 64 v2 hR2)
            clear hR2 hbel2
            go_wp2_with fail
            refine TN.out.mono ?_
            rintro e w3 ⟨rfl, rfl⟩
            go_wp2_with fail
            go_ret
            exact ⟨rfl, HB2.out⟩
end Go.Proofs.Ytdfncgfcggpgdaa
