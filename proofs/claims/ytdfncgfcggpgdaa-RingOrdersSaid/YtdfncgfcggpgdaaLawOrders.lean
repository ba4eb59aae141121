/-
  The walk of the law RingOrders.
-/
import Derived.Test.YtdfncgfcggpgdaaAwake
import Derived.Test.YtdfncgfcggpgdaaRingS
import Derived.Test.YtdfncgfcggpgdaaName
import Derived.Test.YtdfncgfcggpgdaaOpen3
namespace Go.Proofs.Ytdfncgfcggpgdaa
open Go.RowKit
set_option linter.unusedVariables false

abbrev RS (w : World) (base b room : Nat) (v : Value) (xs : List ByteArray) : Prop := RingAt Value.string 9 82 w base b room v xs

/-- The names of the values b, b + 1, .. below a. -/
def nm (b a : Nat) : List ByteArray := (List.range' b (a - b)).map nameS
theorem nm_len (b a : Nat) : (nm b a).length = a - b := by simp [nm]
theorem nm_put {b a : Nat} (h : b ≤ a) : nm b a ++ [nameS a] = nm b (a + 1) := by
  unfold nm
  have : a + 1 - b = (a - b) + 1 := by omega
  have e : b + 1 * (a - b) = a := by omega
  rw [this, List.range'_concat, e]
  simp
theorem nm_take {b a : Nat} (h : b < a) : nm b a = nameS b :: nm (b + 1) a := by
  unfold nm
  have : a - b = (a - (b + 1)) + 1 := by omega
  rw [this, List.range'_succ]
  rfl

def OrMem (W : World) (B n a b : Nat) (w : World) : Prop := (∃ v, RS w B B n v (nm b a)) ∧ b ≤ a ∧ a - b ≤ n ∧ Below W.heap.size W w ∧ B ≤ w.heap.size
theorem OrMem.below {W : World} {B n a b : Nat} {w w' : World} (h : OrMem W B n a b w) (hb : Below w.heap.size w w') : OrMem W B n a b w' := by
  obtain ⟨⟨v, h1⟩, h2, h3, h4, h5⟩ := h
  exact ⟨⟨v, h1.below hb⟩, h2, h3, h4.trans (hb.mono h4.size), Nat.le_trans h5 hb.size⟩
def OrRel (W : World) (B n len : Nat) (x y i : Value) (w : World) : Prop := ∃ j a b : Nat, j ≤ len ∧ i = .int .i64 j ∧ a ≤ j ∧ x = .int .i64 a ∧ y = .int .i64 b ∧ OrMem W B n a b w

set_option maxHeartbeats 2000000 in
set_option maxRecDepth 100000 in
theorem ringOrders_walk (W : World) (rm : Int) (wr : (Lit.int .u8 rm).wf = true) (a0 : Option Addr) (c0 : Nat) (l : List I3) (s0 : Sl3 W a0 l) (g0 : ∀ x ∈ l, IntOk .i64 (I3.a x) ∧ IntOk .i64 x.b ∧ IntOk .i64 x.c) (m0 : l.length ≤ maxLen) :
    Calls Try.prog 3 #[.int .u8 rm, .slice a0 l.length c0] W fun e W' => e = .returned (.bool true) ∧ Below W.heap.size W W' := by
  have HAW := Lib.hid awake_ok
  have S0 := Lib.hid s0
  have hrm : 0 ≤ rm ∧ rm ≤ 255 := by simpa [Lit.wf, IntKind.min, IntKind.max, IntKind.signed, IntKind.bits] using wr
  obtain ⟨hr0, hr1⟩ := hrm
  clear s0 g0 m0 wr
  go_enter Try.func3, Try.ntmps3
  go_wp2_with fail
  refine (HAW.out W).mono ?_
  rintro e w1 ⟨rfl, hb⟩
  have B1 := Lib.hid hb; clear hb
  by_cases hbig : (300 : Int) < l.length
  · go_wp2_with fail
    refine (HAW.out w1).mono ?_
    rintro e w2 ⟨rfl, hb⟩
    have B2 := Lib.hid (B1.out.trans (hb.mono B1.out.size)); clear hb
    go_wp2_with fail
    go_ret
    exact ⟨rfl, B2.out⟩
  · have hl : l.length ≤ 300 := by omega
    obtain ⟨n, hn⟩ : ∃ n : Nat, 1 + rm % 64 = n := ⟨(1 + rm % 64).toNat, by omega⟩
    have hn1 : 1 ≤ n := by omega
    have hn64 : n ≤ 64 := by omega
    have N0 := Lib.hid (newS_ok n w1.heap.size w1 hn1 hn64)
    have hBW := B1.out.size
    go_wp2_with fail
    clear hn
    refine N0.out.mono ?_
    rintro e w2 ⟨rfl, hR, hB, hz⟩
    have M0 : Hid (OrMem W w1.heap.size n 0 0 w2) := ⟨⟨_, hR⟩, by omega, by omega, B1.out.trans (hB.mono B1.out.size), by omega⟩
    clear hR hB hz
    generalize w1.heap.size = B at *
    go_wp2_with fail
    go_loopw [8, 9, 37] (fun x y i wr => OrRel W B n l.length x y i wr) (fun _ _ i _ => l.length - (intOf i).toNat)
    case atStart => exact ⟨0, 0, 0, Nat.zero_le _, rfl, by omega, rfl, rfl, M0.out⟩
    case round =>
      obtain ⟨j, a, b, hj, rfl, haj, rfl, rfl, hm⟩ := hrel
      have HM := Lib.hid hm; clear hm
      by_cases hlt : j < l.length
      · obtain ⟨x, ex, okx, cx1, cx2, cx3⟩ := (S0.out.below HM.out.2.2.2.1).get (k := j) hlt
        have hba := HM.out.2.1
        have hab := HM.out.2.2.1
        obtain ⟨xa, xb, xc⟩ := x
        go_upto_if 43 with (fail)
        have HMA : Hid (OrMem W B n a b (wr.alloc (.cells #[.int .i64 xa, .int .i64 xb, .int .i64 xc] 30))) := HM.out.below ((Below.refl _ _).alloc (Nat.le_refl _) _)
        generalize wr.alloc (.cells #[.int .i64 xa, .int .i64 xb, .int .i64 xc] 30) = wa at *
        go_cut [8, 9] (fun x y w => ∃ a b : Nat, a ≤ j + 1 ∧ x = .int .i64 a ∧ y = .int .i64 b ∧ OrMem W B n a b w)
        case first =>
          obtain ⟨⟨v, hR⟩, _, _, hbel, hBh⟩ := HMA.out
          have HR := Lib.hid hR; have HB := Lib.hid hbel
          clear hR hbel
          by_cases hk : xa = 0
          · have hkb : ((xa : Int) == 0) = true := by simp [hk]
            clear hk
            have NA := Lib.hid (name_any a wa (by omega))
            by_cases hfull : a - b = n
            · have P := Lib.hid (putS_full wa B B n v (nm b a) (nameS a) HR.out (by rw [nm_len]; omega))
              have hne : ((a : Int) - (b : Int) != (n : Int)) = false := by rw [bne_eq_false_iff_eq]; omega
              go_wp2_with fail
              refine NA.out.mono ?_
              rintro e w4 ⟨rfl, rfl⟩
              go_wp2_with fail
              refine P.out.mono ?_
              rintro e w5 ⟨rfl, hq⟩
              have M5 := Lib.hid (HMA.out.below hq.bel)
              clear hq
              go_wp2_with fail
              go_meet
              exact ⟨a, b, by omega, rfl, rfl, M5.out⟩
            · have P := Lib.hid (putS_ok wa B B n v (nm b a) (nameS a) HR.out (by rw [nm_len]; omega) (by omega) hBh)
              go_wp2_with fail
              refine NA.out.mono ?_
              rintro e w4 ⟨rfl, rfl⟩
              go_wp2_with fail
              refine P.out.mono ?_
              rintro e w5 ⟨v5, rfl, hR5, hU5, _⟩
              have M5 : Hid (OrMem W B n (a + 1) b w5) := ⟨⟨v5, by rw [← nm_put hba]; exact hR5⟩, by omega, by omega, ring_below HB.out HR.out hU5 hBW hBW HB.out.size, by have := hU5.size; omega⟩
              clear hR5 hU5
              go_wp2_with fail
              go_meet
              exact ⟨a + 1, b, by omega, by go_num, rfl, M5.out⟩
          · have hkb : ((xa : Int) == 0) = false := by simp [hk]
            clear hk
            by_cases hemp : b = a
            · subst hemp
              have hnil : nm b b = [] := by simp [nm]
              rw [hnil] at HR
              have T := Lib.hid (takeS_none wa B B n v HR.out)
              clear hnil
              have hbb : ((b : Int) != (b : Int)) = false := by simp
              go_wp2_with fail
              refine T.out.mono ?_
              rintro e w5 ⟨rfl, rfl⟩
              go_wp2_with fail
              go_meet
              exact ⟨b, b, by omega, rfl, rfl, HMA.out⟩
            · have hlt' : b < a := by omega
              rw [nm_take hlt'] at HR
              have T := Lib.hid (takeS_some wa B B n v (nameS b) (nm (b + 1) a) HR.out)
              have NB := Lib.hid fun w => name_any b w (by omega)
              go_wp2_with fail
              refine T.out.mono ?_
              rintro e w5 ⟨v5, rfl, hR5, hU5, _⟩
              have M5 : Hid (OrMem W B n a (b + 1) w5) := ⟨⟨v5, hR5⟩, by omega, by omega, ring_below HB.out HR.out hU5 hBW hBW HB.out.size, by have := hU5.size; omega⟩
              clear hR5 hU5
              go_wp2_with fail
              refine (NB.out w5).mono ?_
              rintro e w6 ⟨rfl, rfl⟩
              go_wp2_with fail
              go_meet
              exact ⟨a, b + 1, by omega, rfl, by go_num, M5.out⟩
        case rest =>
          clear hba hab haj HM HMA
          obtain ⟨a, b, haj, rfl, rfl, hm⟩ := hcut
          obtain ⟨⟨v, hR⟩, hba, hab, hbel, hBh⟩ := hm
          have HR := Lib.hid hR; have HB := Lib.hid hbel
          have L1 := Lib.hid fun w (h : RS w B B n v (nm b a)) => lenS_any w B B n v (nm b a) h
          have R1 := Lib.hid fun w (h : RS w B B n v (nm b a)) => roomS_any w B B n v (nm b a) h (by omega) (by rw [nm_len]; omega)
          have hln : ((nm b a).length : Int) = (a : Int) - b := by rw [nm_len]; omega
          rw [hln] at L1 R1
          have hb1 : ((a : Int) - (b : Int) != (a : Int) - (b : Int)) = false := by simp
          have hb2 : ¬ (n : Int) < (a : Int) - (b : Int) := by omega
          have hb3 : (((a : Int) - (b : Int)) + ((n : Int) - ((a : Int) - (b : Int))) != (n : Int)) = false := by rw [bne_eq_false_iff_eq]; omega
          clear hR hbel hln
          go_wp2_with fail
          refine (L1.out _ HR.out).mono ?_
          rintro e w4 ⟨rfl, rfl⟩
          go_wp2_with fail
          refine (L1.out _ HR.out).mono ?_
          rintro e w4 ⟨rfl, rfl⟩
          go_wp2_with fail
          refine (L1.out _ HR.out).mono ?_
          rintro e w4 ⟨rfl, rfl⟩
          go_wp2_with fail
          refine (R1.out _ HR.out).mono ?_
          rintro e w5 ⟨rfl, hq⟩
          have M5 : Hid (OrMem W B n a b w5) := OrMem.below ⟨⟨v, HR.out⟩, hba, hab, HB.out, hBh⟩ hq.bel
          clear hq
          go_wp2_with fail
          go_roundw
          case rel => exact ⟨j + 1, a, b, by omega, by go_num, haj, rfl, rfl, M5.out⟩
          case measure => simp [intOf]; omega
      · obtain rfl : j = l.length := by omega
        go_wp2_with fail
        go_ret
        exact ⟨rfl, HM.out.2.2.2.1⟩
end Go.Proofs.Ytdfncgfcggpgdaa
