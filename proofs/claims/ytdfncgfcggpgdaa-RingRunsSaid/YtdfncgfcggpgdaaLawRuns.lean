/-
  The walk of the law RingRuns.
-/
import Derived.Test.YtdfncgfcggpgdaaRunsLib
import Derived.Test.YtdfncgfcggpgdaaOpen3
import Derived.Test.YtdfncgfcggpgdaaSlices
import Derived.RegionTactic
namespace Go.Proofs.Ytdfncgfcggpgdaa
open Go.RowKit
set_option linter.unusedVariables false

set_option maxHeartbeats 8000000 in
set_option maxRecDepth 100000 in
theorem ringRuns_walk (W : World) (n : Int) (wn : IntOk .i64 n) (a0 : Option Addr) (c0 : Nat) (l : List I3) (s0 : Sl3 W a0 l) (g0 : ∀ x ∈ l, IntOk .i64 (I3.a x) ∧ IntOk .i64 x.b ∧ IntOk .i64 x.c) (m0 : l.length ≤ maxLen) :
    Calls Try.prog 5 #[.int .i64 n, .slice a0 l.length c0] W fun e W' => e = .returned (.bool true) ∧ Below W.heap.size W W' := by
  have HAW := Lib.hid awake_ok
  have S0 := Lib.hid s0
  clear s0 g0 m0 wn
  go_enter Try.func5, Try.ntmps5
  go_wp2_with fail
  refine (HAW.out W).mono ?_
  rintro e w1 ⟨rfl, hb⟩
  have B1 := Lib.hid hb; clear hb
  by_cases hbig : (300 : Int) < l.length
  · go_wp2_with fail
    refine (HAW.out w1).mono ?_
    rintro e w2 ⟨rfl, hb⟩
    have B2 := Lib.hid (B1.out.trans (hb.mono B1.out.size)); clear hb
    go_wp2_with fail
    go_ret
    exact ⟨rfl, B2.out⟩
  · have hl : l.length ≤ 300 := by omega
    by_cases hbad : n < 1 ∨ 64 < n
    · have NB := Lib.hid (newI_bad n w1 hbad)
      rcases hbad with hn | hn
      · go_wp2_with fail
        refine NB.out.mono ?_
        rintro e w2 ⟨rfl, rfl⟩
        go_wp2_with fail
        go_ret
        exact ⟨rfl, B1.out⟩
      · have hn1 : ¬ n < 1 := by omega
        go_wp2_with fail
        refine NB.out.mono ?_
        rintro e w2 ⟨rfl, rfl⟩
        go_wp2_with fail
        go_ret
        exact ⟨rfl, B1.out⟩
    · obtain ⟨room, rfl⟩ := Int.eq_ofNat_of_zero_le (show 0 ≤ n by omega)
      have hr1 : 1 ≤ room := by omega
      have hr2 : room ≤ 64 := by omega
      have NG := Lib.hid (newI_ok room w1.heap.size w1 hr1 hr2)
      have hn1 : ¬ (room : Int) < 1 := by omega
      have hn2 : ¬ (64 : Int) < (room : Int) := by omega
      clear hbad
      go_wp2_with fail
      refine NG.out.mono ?_
      rintro e w2 ⟨rfl, hR, hb, hz⟩
      have N0 : Hid (RQ W (w2.alloc (.cells #[.int .i64 room, .slice none 0 0] 51)) w1.heap.size w2.heap.size room (.slice none 0 0) none 0 0 [] []) :=
        ⟨hR.below ((Below.refl _ _).alloc (Nat.le_refl _) _), Blk.new w2 _ [.int .i64 room, .slice none 0 0], Rw.nil _ _ _ _, rfl, fun g hg => by simp [Value.ownBlock] at hg, by omega, (B1.out.trans (hb.mono B1.out.size)).alloc (by have := B1.out.size; omega) _, B1.out.size⟩
      clear hR hb hz
      generalize hB0 : w1.heap.size = b at *
      clear hB0
      go_wp2_with fail
      generalize hQ0 : w2.heap.size = qb at *
      clear hQ0
      go_loopw [48] (fun i wr => RnRel W b qb room l.length i wr) (fun i _ => l.length - (intOf i).toNat)
      case atStart => exact ⟨0, _, _, _, _, [], Nat.zero_le _, rfl, Nat.zero_le _, N0.out⟩
      case round =>
        clear N0
        obtain ⟨k, v, qa, n, qc, xs, hk, rfl, hx, hN⟩ := hrel
        obtain rfl : n = xs.length := hN.hn
        have N := Lib.hid hN
        clear hN
        have hqw : qb < wr.heap.size := N.out.blk.lt
        by_cases hlt : k < l.length
        · obtain ⟨x, ex, okx, cx1, cx2, cx3⟩ := (S0.out.below N.out.bel).get (k := k) hlt
          obtain ⟨xa, xb, xc⟩ := x
          have NA : Hid (RQ W (wr.alloc (.cells #[.int .i64 xa, .int .i64 xb, .int .i64 xc] 30)) b qb room v qa xs.length qc xs xs) := N.out.below ((Below.refl _ _).alloc (Nat.le_refl _) _)
          have BO : Hid (Blk (wr.alloc (.cells #[.int .i64 xa, .int .i64 xb, .int .i64 xc] 30)) wr.heap.size 30 [.int .i64 xa, .int .i64 xb, .int .i64 xc]) := Blk.new wr _ [.int .i64 xa, .int .i64 xb, .int .i64 xc]
          have hne1 : ¬ wr.heap.size = qb := by omega
          have hne2 : ¬ qb = wr.heap.size := by omega
          have y0 := NA.out.blk.cell (i := 0) rfl
          have y1 := NA.out.blk.cell (i := 1) rfl
          have o0 := BO.out.cell (i := 0) rfl
          have o2 := BO.out.cell (i := 2) rfl
          clear ex
          by_cases h0 : xa = 0
          · subst h0
            by_cases hf : xs.length < room
            · skip
              have RP := Lib.hid (rput_ok _ (qb + 1) room qa qc xs xc NA.out.row hf (by omega))
              go_wp2_with fail
              refine RP.out.mono ?_
              rintro e w2 ⟨a2, c2, rfl, hrow, hb⟩
              have NS := Lib.hid (NA.out.new hb hrow (by simp))
              unfold qV
              have yy0 := (NA.out.below hb).blk.cell (i := 0) rfl
              have yy1 := (NA.out.below hb).blk.cell (i := 1) rfl
              have ff0 := (NA.out.below hb).blk.free 0
              have ff1 := (NA.out.below hb).blk.free 1
              have oo := (BO.out.upd (S := fun _ => False) (Upd.of_below hb) id).cell (i := 2) rfl
              have PU := Lib.hid (putI_ok _ b b room v xs xc NS.out.ring hf (by omega) (by have := NS.out.ring.hb.lt; omega))
              clear hb hrow y0 y1 o0 o2
              go_wp2_with fail
              refine PU.out.mono ?_
              rintro e w4 ⟨v4, rfl, hR, hU, hv⟩
              obtain ⟨v6, qa6, n6, qc6, xs6, N6, hx6⟩ : ∃ v6 qa6 n6 qc6 xs6, Hid (RQ W w4 b qb room v6 qa6 n6 qc6 xs6 xs6) ∧ xs6.length ≤ room := ⟨_, _, _, _, xs ++ [xc], NS.out.step hR hU hv, by simp; omega⟩
              clear hR hU hv yy0 yy1 ff0 ff1 oo
              go_wp2_with fail
              refine (values_any _ b b room v6 xs6 N6.out.ring (by omega)).mono ?_
              rintro e w7 ⟨v7, rfl, hr7, hb7⟩
              obtain ⟨a7, c7, rfl, hrest7⟩ := hr7
              have RT7 : Hid (RT W b qb room v6 qa6 n6 qc6 xs6 a7 w7) := ⟨N6.out.below hb7, Rw.sl ⟨a7, c7, rfl, hrest7⟩⟩
              obtain rfl : n6 = xs6.length := N6.out.hn
              have LE : Hid (∀ w, RT W b qb room v6 qa6 xs6.length qc6 xs6 a7 w → Calls Try.prog 29 #[.pointer (some ⟨b, 0, none⟩)] w fun e w' => e = .returned (.int .i64 xs6.length) ∧ Qt w w') := fun w h => (lenI_any w b b room v6 xs6 h.1.ring).mono fun e w' h => ⟨h.1, by rw [← h.2]; exact Qt.refl _⟩
              have RO : Hid (∀ w, RT W b qb room v6 qa6 xs6.length qc6 xs6 a7 w → Calls Try.prog 30 #[.pointer (some ⟨b, 0, none⟩)] w fun e w' => e = .returned (.int .i64 ((room : Int) - xs6.length)) ∧ Qt w w') := fun w h => roomI_any w b b room v6 xs6 h.1.ring (by omega) (by omega)
              have EQ : Hid (∀ w, RT W b qb room v6 qa6 xs6.length qc6 xs6 a7 w → Calls Try.prog 31 #[.slice a7 xs6.length c7, .slice qa6 xs6.length qc6] w fun e w' => e = .returned (.bool true) ∧ Qt w w') := fun w h => (equalInt_any w a7 qa6 c7 qc6 xs6 xs6 h.2 h.1.row.sl (by unfold maxLen; omega)).mono fun e w' h => ⟨by rw [h.1]; simp, h.2⟩
              have RTs := RT7.out.s
              have t1 : (((xs6.length : Int)) != (xs6.length : Int)) = false := by simp
              have t2 : (((room : Int) - (xs6.length : Int)) != ((room : Int) - (xs6.length : Int))) = false := by simp
              have t3 : IntKind.i64.wrap ((room : Int) - xs6.length) = (room : Int) - xs6.length := IntWalk.i64_in _ (by omega)
              clear hrest7 hb7
              go_wp2_with fail
              go_region_held3 (fun w' => w'.cell? ⟨qb, 1, none⟩ = some (.slice qa6 xs6.length qc6) ∧ RT W b qb room v6 qa6 xs6.length qc6 xs6 a7 w')
                ((go_split_ands; first | exact (RT.drew (by assumption)).s | exact (RT.below (by assumption) (by assumption)).s | exact RT.s (by assumption) | go_keep))
                (first
                  | (go_at_call 29; go_split_ands; refine (LE.out _ (RT.below (by assumption) (Below.refl _ _))).mono ?_; rintro e w' ⟨rfl, hq⟩; have hb := hq.bel)
                  | (go_at_call 30; go_split_ands; refine (RO.out _ (RT.below (by assumption) (Below.refl _ _))).mono ?_; rintro e w' ⟨rfl, hq⟩; have hb := hq.bel)
                  | (go_at_call 31; go_split_ands; refine (EQ.out _ (RT.below (by assumption) (Below.refl _ _))).mono ?_; rintro e w' ⟨rfl, hq⟩; have hb := hq.bel))
              rename_i hHeld
              have NF := Lib.hid (RT.below hHeld.2 (Below.refl _ _)).1
              clear hHeld
              go_wp2_with fail
              go_roundw
              case rel => exact ⟨k + 1, v6, qa6, xs6.length, qc6, xs6, by omega, by go_num, hx6, NF.out⟩
              case measure => simp [intOf]; omega
            · have hf2 : room ≤ xs.length := by omega
              have RP := Lib.hid (rput_full (wr.alloc (.cells #[.int .i64 0, .int .i64 xb, .int .i64 xc] 30)) room qa xs.length qc xc hf2)
              go_wp2_with fail
              refine RP.out.mono ?_
              rintro e w2 ⟨rfl, hb⟩
              have NS := Lib.hid (NA.out.same hb)
              unfold qV
              have yy0 := (NA.out.below hb).blk.cell (i := 0) rfl
              have yy1 := (NA.out.below hb).blk.cell (i := 1) rfl
              have ff0 := (NA.out.below hb).blk.free 0
              have ff1 := (NA.out.below hb).blk.free 1
              have oo := (BO.out.upd (S := fun _ => False) (Upd.of_below hb) id).cell (i := 2) rfl
              have PU := Lib.hid (putI_full _ b b room v xs xc NS.out.ring hf2)
              clear hb y0 y1 o0 o2
              go_wp2_with fail
              refine PU.out.mono ?_
              rintro e w4 ⟨rfl, hq⟩
              obtain ⟨v6, qa6, n6, qc6, xs6, N6, hx6⟩ : ∃ v6 qa6 n6 qc6 xs6, Hid (RQ W w4 b qb room v6 qa6 n6 qc6 xs6 xs6) ∧ xs6.length ≤ room := ⟨_, _, _, _, xs, NS.out.below hq.bel, hx⟩
              clear hq yy0 yy1 ff0 ff1 oo
              go_wp2_with fail
              refine (values_any _ b b room v6 xs6 N6.out.ring (by omega)).mono ?_
              rintro e w7 ⟨v7, rfl, hr7, hb7⟩
              obtain ⟨a7, c7, rfl, hrest7⟩ := hr7
              have RT7 : Hid (RT W b qb room v6 qa6 n6 qc6 xs6 a7 w7) := ⟨N6.out.below hb7, Rw.sl ⟨a7, c7, rfl, hrest7⟩⟩
              obtain rfl : n6 = xs6.length := N6.out.hn
              have LE : Hid (∀ w, RT W b qb room v6 qa6 xs6.length qc6 xs6 a7 w → Calls Try.prog 29 #[.pointer (some ⟨b, 0, none⟩)] w fun e w' => e = .returned (.int .i64 xs6.length) ∧ Qt w w') := fun w h => (lenI_any w b b room v6 xs6 h.1.ring).mono fun e w' h => ⟨h.1, by rw [← h.2]; exact Qt.refl _⟩
              have RO : Hid (∀ w, RT W b qb room v6 qa6 xs6.length qc6 xs6 a7 w → Calls Try.prog 30 #[.pointer (some ⟨b, 0, none⟩)] w fun e w' => e = .returned (.int .i64 ((room : Int) - xs6.length)) ∧ Qt w w') := fun w h => roomI_any w b b room v6 xs6 h.1.ring (by omega) (by omega)
              have EQ : Hid (∀ w, RT W b qb room v6 qa6 xs6.length qc6 xs6 a7 w → Calls Try.prog 31 #[.slice a7 xs6.length c7, .slice qa6 xs6.length qc6] w fun e w' => e = .returned (.bool true) ∧ Qt w w') := fun w h => (equalInt_any w a7 qa6 c7 qc6 xs6 xs6 h.2 h.1.row.sl (by unfold maxLen; omega)).mono fun e w' h => ⟨by rw [h.1]; simp, h.2⟩
              have RTs := RT7.out.s
              have t1 : (((xs6.length : Int)) != (xs6.length : Int)) = false := by simp
              have t2 : (((room : Int) - (xs6.length : Int)) != ((room : Int) - (xs6.length : Int))) = false := by simp
              have t3 : IntKind.i64.wrap ((room : Int) - xs6.length) = (room : Int) - xs6.length := IntWalk.i64_in _ (by omega)
              clear hrest7 hb7
              go_wp2_with fail
              go_region_held3 (fun w' => w'.cell? ⟨qb, 1, none⟩ = some (.slice qa6 xs6.length qc6) ∧ RT W b qb room v6 qa6 xs6.length qc6 xs6 a7 w')
                ((go_split_ands; first | exact (RT.drew (by assumption)).s | exact (RT.below (by assumption) (by assumption)).s | exact RT.s (by assumption) | go_keep))
                (first
                  | (go_at_call 29; go_split_ands; refine (LE.out _ (RT.below (by assumption) (Below.refl _ _))).mono ?_; rintro e w' ⟨rfl, hq⟩; have hb := hq.bel)
                  | (go_at_call 30; go_split_ands; refine (RO.out _ (RT.below (by assumption) (Below.refl _ _))).mono ?_; rintro e w' ⟨rfl, hq⟩; have hb := hq.bel)
                  | (go_at_call 31; go_split_ands; refine (EQ.out _ (RT.below (by assumption) (Below.refl _ _))).mono ?_; rintro e w' ⟨rfl, hq⟩; have hb := hq.bel))
              rename_i hHeld
              have NF := Lib.hid (RT.below hHeld.2 (Below.refl _ _)).1
              clear hHeld
              go_wp2_with fail
              go_roundw
              case rel => exact ⟨k + 1, v6, qa6, xs6.length, qc6, xs6, by omega, by go_num, hx6, NF.out⟩
              case measure => simp [intOf]; omega
          · by_cases h1 : xa = 1
            · subst h1
              cases xs with
              | nil =>
                have RP := Lib.hid (rtake_none (wr.alloc (.cells #[.int .i64 1, .int .i64 xb, .int .i64 xc] 30)) room qa qc)
                simp only [List.length_nil] at NA y1
                go_wp2_with fail
                refine RP.out.mono ?_
                rintro e w2 ⟨rfl, hb⟩
                have NS := Lib.hid (NA.out.same hb)
                unfold qV
                have yy0 := (NA.out.below hb).blk.cell (i := 0) rfl
                have yy1 := (NA.out.below hb).blk.cell (i := 1) rfl
                have ff0 := (NA.out.below hb).blk.free 0
                have ff1 := (NA.out.below hb).blk.free 1
                have oo := (BO.out.upd (S := fun _ => False) (Upd.of_below hb) id).cell (i := 2) rfl
                have PU := Lib.hid (takeI_none _ b b room v NS.out.ring)
                clear hb y0 y1 o0 o2
                go_wp2_with fail
                refine PU.out.mono ?_
                rintro e w4 ⟨rfl, hw4⟩
                obtain ⟨v6, qa6, n6, qc6, xs6, N6, hx6⟩ : ∃ v6 qa6 n6 qc6 xs6, Hid (RQ W w4 b qb room v6 qa6 n6 qc6 xs6 xs6) ∧ xs6.length ≤ room := ⟨_, _, _, _, [], by rw [← hw4]; exact NS.out, by simp⟩
                subst hw4
                clear yy0 yy1 ff0 ff1 oo
                go_wp2_with fail
                refine (values_any _ b b room v6 xs6 N6.out.ring (by omega)).mono ?_
                rintro e w7 ⟨v7, rfl, hr7, hb7⟩
                obtain ⟨a7, c7, rfl, hrest7⟩ := hr7
                have RT7 : Hid (RT W b qb room v6 qa6 n6 qc6 xs6 a7 w7) := ⟨N6.out.below hb7, Rw.sl ⟨a7, c7, rfl, hrest7⟩⟩
                obtain rfl : n6 = xs6.length := N6.out.hn
                have LE : Hid (∀ w, RT W b qb room v6 qa6 xs6.length qc6 xs6 a7 w → Calls Try.prog 29 #[.pointer (some ⟨b, 0, none⟩)] w fun e w' => e = .returned (.int .i64 xs6.length) ∧ Qt w w') := fun w h => (lenI_any w b b room v6 xs6 h.1.ring).mono fun e w' h => ⟨h.1, by rw [← h.2]; exact Qt.refl _⟩
                have RO : Hid (∀ w, RT W b qb room v6 qa6 xs6.length qc6 xs6 a7 w → Calls Try.prog 30 #[.pointer (some ⟨b, 0, none⟩)] w fun e w' => e = .returned (.int .i64 ((room : Int) - xs6.length)) ∧ Qt w w') := fun w h => roomI_any w b b room v6 xs6 h.1.ring (by omega) (by omega)
                have EQ : Hid (∀ w, RT W b qb room v6 qa6 xs6.length qc6 xs6 a7 w → Calls Try.prog 31 #[.slice a7 xs6.length c7, .slice qa6 xs6.length qc6] w fun e w' => e = .returned (.bool true) ∧ Qt w w') := fun w h => (equalInt_any w a7 qa6 c7 qc6 xs6 xs6 h.2 h.1.row.sl (by unfold maxLen; omega)).mono fun e w' h => ⟨by rw [h.1]; simp, h.2⟩
                have RTs := RT7.out.s
                have t1 : (((xs6.length : Int)) != (xs6.length : Int)) = false := by simp
                have t2 : (((room : Int) - (xs6.length : Int)) != ((room : Int) - (xs6.length : Int))) = false := by simp
                have t3 : IntKind.i64.wrap ((room : Int) - xs6.length) = (room : Int) - xs6.length := IntWalk.i64_in _ (by omega)
                clear hrest7 hb7
                go_wp2_with fail
                go_region_held3 (fun w' => w'.cell? ⟨qb, 1, none⟩ = some (.slice qa6 xs6.length qc6) ∧ RT W b qb room v6 qa6 xs6.length qc6 xs6 a7 w')
                  ((go_split_ands; first | exact (RT.drew (by assumption)).s | exact (RT.below (by assumption) (by assumption)).s | exact RT.s (by assumption) | go_keep))
                  (first
                    | (go_at_call 29; go_split_ands; refine (LE.out _ (RT.below (by assumption) (Below.refl _ _))).mono ?_; rintro e w' ⟨rfl, hq⟩; have hb := hq.bel)
                    | (go_at_call 30; go_split_ands; refine (RO.out _ (RT.below (by assumption) (Below.refl _ _))).mono ?_; rintro e w' ⟨rfl, hq⟩; have hb := hq.bel)
                    | (go_at_call 31; go_split_ands; refine (EQ.out _ (RT.below (by assumption) (Below.refl _ _))).mono ?_; rintro e w' ⟨rfl, hq⟩; have hb := hq.bel))
                rename_i hHeld
                have NF := Lib.hid (RT.below hHeld.2 (Below.refl _ _)).1
                clear hHeld
                go_wp2_with fail
                go_roundw
                case rel => exact ⟨k + 1, v6, qa6, xs6.length, qc6, xs6, by omega, by go_num, hx6, NF.out⟩
                case measure => simp [intOf]; omega
              | cons x0 xs =>
                have RP := Lib.hid (rtake_some _ (qb + 1) room qa qc x0 xs NA.out.row (by simp at hx; omega))
                simp only [List.length_cons] at NA y1
                go_wp2_with fail
                refine RP.out.mono ?_
                rintro e w2 ⟨a2, c2, rfl, hrow, hb⟩
                have NS := Lib.hid (NA.out.new hb hrow rfl)
                unfold qV
                have yy0 := (NA.out.below hb).blk.cell (i := 0) rfl
                have yy1 := (NA.out.below hb).blk.cell (i := 1) rfl
                have ff0 := (NA.out.below hb).blk.free 0
                have ff1 := (NA.out.below hb).blk.free 1
                have oo := (BO.out.upd (S := fun _ => False) (Upd.of_below hb) id).cell (i := 2) rfl
                have PU := Lib.hid (takeI_some _ b b room v x0 xs NS.out.ring)
                clear hb hrow y0 y1 o0 o2
                go_wp2_with fail
                refine PU.out.mono ?_
                rintro e w4 ⟨v4, rfl, hR, hU, hv⟩
                obtain ⟨v6, qa6, n6, qc6, xs6, N6, hx6⟩ : ∃ v6 qa6 n6 qc6 xs6, Hid (RQ W w4 b qb room v6 qa6 n6 qc6 xs6 xs6) ∧ xs6.length ≤ room := ⟨_, _, _, _, xs, NS.out.step hR hU (.inl hv), by simp at hx; omega⟩
                clear hR hU hv yy0 yy1 ff0 ff1 oo
                have tx : ((x0 : Int) != x0) = false := by simp
                go_wp2_with fail
                refine (values_any _ b b room v6 xs6 N6.out.ring (by omega)).mono ?_
                rintro e w7 ⟨v7, rfl, hr7, hb7⟩
                obtain ⟨a7, c7, rfl, hrest7⟩ := hr7
                have RT7 : Hid (RT W b qb room v6 qa6 n6 qc6 xs6 a7 w7) := ⟨N6.out.below hb7, Rw.sl ⟨a7, c7, rfl, hrest7⟩⟩
                obtain rfl : n6 = xs6.length := N6.out.hn
                have LE : Hid (∀ w, RT W b qb room v6 qa6 xs6.length qc6 xs6 a7 w → Calls Try.prog 29 #[.pointer (some ⟨b, 0, none⟩)] w fun e w' => e = .returned (.int .i64 xs6.length) ∧ Qt w w') := fun w h => (lenI_any w b b room v6 xs6 h.1.ring).mono fun e w' h => ⟨h.1, by rw [← h.2]; exact Qt.refl _⟩
                have RO : Hid (∀ w, RT W b qb room v6 qa6 xs6.length qc6 xs6 a7 w → Calls Try.prog 30 #[.pointer (some ⟨b, 0, none⟩)] w fun e w' => e = .returned (.int .i64 ((room : Int) - xs6.length)) ∧ Qt w w') := fun w h => roomI_any w b b room v6 xs6 h.1.ring (by omega) (by omega)
                have EQ : Hid (∀ w, RT W b qb room v6 qa6 xs6.length qc6 xs6 a7 w → Calls Try.prog 31 #[.slice a7 xs6.length c7, .slice qa6 xs6.length qc6] w fun e w' => e = .returned (.bool true) ∧ Qt w w') := fun w h => (equalInt_any w a7 qa6 c7 qc6 xs6 xs6 h.2 h.1.row.sl (by unfold maxLen; omega)).mono fun e w' h => ⟨by rw [h.1]; simp, h.2⟩
                have RTs := RT7.out.s
                have t1 : (((xs6.length : Int)) != (xs6.length : Int)) = false := by simp
                have t2 : (((room : Int) - (xs6.length : Int)) != ((room : Int) - (xs6.length : Int))) = false := by simp
                have t3 : IntKind.i64.wrap ((room : Int) - xs6.length) = (room : Int) - xs6.length := IntWalk.i64_in _ (by omega)
                clear hrest7 hb7
                go_wp2_with fail
                go_region_held3 (fun w' => w'.cell? ⟨qb, 1, none⟩ = some (.slice qa6 xs6.length qc6) ∧ RT W b qb room v6 qa6 xs6.length qc6 xs6 a7 w')
                  ((go_split_ands; first | exact (RT.drew (by assumption)).s | exact (RT.below (by assumption) (by assumption)).s | exact RT.s (by assumption) | go_keep))
                  (first
                    | (go_at_call 29; go_split_ands; refine (LE.out _ (RT.below (by assumption) (Below.refl _ _))).mono ?_; rintro e w' ⟨rfl, hq⟩; have hb := hq.bel)
                    | (go_at_call 30; go_split_ands; refine (RO.out _ (RT.below (by assumption) (Below.refl _ _))).mono ?_; rintro e w' ⟨rfl, hq⟩; have hb := hq.bel)
                    | (go_at_call 31; go_split_ands; refine (EQ.out _ (RT.below (by assumption) (Below.refl _ _))).mono ?_; rintro e w' ⟨rfl, hq⟩; have hb := hq.bel))
                rename_i hHeld
                have NF := Lib.hid (RT.below hHeld.2 (Below.refl _ _)).1
                clear hHeld
                go_wp2_with fail
                go_roundw
                case rel => exact ⟨k + 1, v6, qa6, xs6.length, qc6, xs6, by omega, by go_num, hx6, NF.out⟩
                case measure => simp [intOf]; omega
            · by_cases h2 : xa = 2
              · subst h2
                have k1 : ((2 : Int) == 1) = false := by decide
                cases xs with
                | nil =>
                  have RP := Lib.hid (rtake_none (wr.alloc (.cells #[.int .i64 2, .int .i64 xb, .int .i64 xc] 30)) room qa qc)
                  simp only [List.length_nil] at NA y1
                  go_wp2_with fail
                  refine RP.out.mono ?_
                  rintro e w2 ⟨rfl, hb⟩
                  have NS := Lib.hid (NA.out.below hb)
                  unfold qV
                  have yy0 := (NA.out.below hb).blk.cell (i := 0) rfl
                  have yy1 := (NA.out.below hb).blk.cell (i := 1) rfl
                  have ff0 := (NA.out.below hb).blk.free 0
                  have ff1 := (NA.out.below hb).blk.free 1
                  have oo := (BO.out.upd (S := fun _ => False) (Upd.of_below hb) id).cell (i := 2) rfl
                  have PU := Lib.hid (peekI_none _ b b room v NS.out.ring)
                  clear hb y0 y1 o0 o2
                  go_wp2_with fail
                  refine PU.out.mono ?_
                  rintro e w4 ⟨rfl, hw4⟩
                  obtain ⟨v6, qa6, n6, qc6, xs6, N6, hx6⟩ : ∃ v6 qa6 n6 qc6 xs6, Hid (RQ W w4 b qb room v6 qa6 n6 qc6 xs6 xs6) ∧ xs6.length ≤ room := ⟨_, _, _, _, [], by rw [← hw4]; exact NS.out, by simp⟩
                  subst hw4
                  clear yy0 yy1 ff0 ff1 oo
                  go_wp2_with fail
                  refine (values_any _ b b room v6 xs6 N6.out.ring (by omega)).mono ?_
                  rintro e w7 ⟨v7, rfl, hr7, hb7⟩
                  obtain ⟨a7, c7, rfl, hrest7⟩ := hr7
                  have RT7 : Hid (RT W b qb room v6 qa6 n6 qc6 xs6 a7 w7) := ⟨N6.out.below hb7, Rw.sl ⟨a7, c7, rfl, hrest7⟩⟩
                  obtain rfl : n6 = xs6.length := N6.out.hn
                  have LE : Hid (∀ w, RT W b qb room v6 qa6 xs6.length qc6 xs6 a7 w → Calls Try.prog 29 #[.pointer (some ⟨b, 0, none⟩)] w fun e w' => e = .returned (.int .i64 xs6.length) ∧ Qt w w') := fun w h => (lenI_any w b b room v6 xs6 h.1.ring).mono fun e w' h => ⟨h.1, by rw [← h.2]; exact Qt.refl _⟩
                  have RO : Hid (∀ w, RT W b qb room v6 qa6 xs6.length qc6 xs6 a7 w → Calls Try.prog 30 #[.pointer (some ⟨b, 0, none⟩)] w fun e w' => e = .returned (.int .i64 ((room : Int) - xs6.length)) ∧ Qt w w') := fun w h => roomI_any w b b room v6 xs6 h.1.ring (by omega) (by omega)
                  have EQ : Hid (∀ w, RT W b qb room v6 qa6 xs6.length qc6 xs6 a7 w → Calls Try.prog 31 #[.slice a7 xs6.length c7, .slice qa6 xs6.length qc6] w fun e w' => e = .returned (.bool true) ∧ Qt w w') := fun w h => (equalInt_any w a7 qa6 c7 qc6 xs6 xs6 h.2 h.1.row.sl (by unfold maxLen; omega)).mono fun e w' h => ⟨by rw [h.1]; simp, h.2⟩
                  have RTs := RT7.out.s
                  have t1 : (((xs6.length : Int)) != (xs6.length : Int)) = false := by simp
                  have t2 : (((room : Int) - (xs6.length : Int)) != ((room : Int) - (xs6.length : Int))) = false := by simp
                  have t3 : IntKind.i64.wrap ((room : Int) - xs6.length) = (room : Int) - xs6.length := IntWalk.i64_in _ (by omega)
                  clear hrest7 hb7
                  go_wp2_with fail
                  go_region_held3 (fun w' => w'.cell? ⟨qb, 1, none⟩ = some (.slice qa6 xs6.length qc6) ∧ RT W b qb room v6 qa6 xs6.length qc6 xs6 a7 w')
                    ((go_split_ands; first | exact (RT.drew (by assumption)).s | exact (RT.below (by assumption) (by assumption)).s | exact RT.s (by assumption) | go_keep))
                    (first
                      | (go_at_call 29; go_split_ands; refine (LE.out _ (RT.below (by assumption) (Below.refl _ _))).mono ?_; rintro e w' ⟨rfl, hq⟩; have hb := hq.bel)
                      | (go_at_call 30; go_split_ands; refine (RO.out _ (RT.below (by assumption) (Below.refl _ _))).mono ?_; rintro e w' ⟨rfl, hq⟩; have hb := hq.bel)
                      | (go_at_call 31; go_split_ands; refine (EQ.out _ (RT.below (by assumption) (Below.refl _ _))).mono ?_; rintro e w' ⟨rfl, hq⟩; have hb := hq.bel))
                  rename_i hHeld
                  have NF := Lib.hid (RT.below hHeld.2 (Below.refl _ _)).1
                  clear hHeld
                  go_wp2_with fail
                  go_roundw
                  case rel => exact ⟨k + 1, v6, qa6, xs6.length, qc6, xs6, by omega, by go_num, hx6, NF.out⟩
                  case measure => simp [intOf]; omega
                | cons x0 xs =>
                  have RP := Lib.hid (rtake_some _ (qb + 1) room qa qc x0 xs NA.out.row (by simp at hx; omega))
                  simp only [List.length_cons] at NA y1
                  go_wp2_with fail
                  refine RP.out.mono ?_
                  rintro e w2 ⟨a2, c2, rfl, hrow, hb⟩
                  have NS := Lib.hid (NA.out.below hb)
                  unfold qV
                  have yy0 := (NA.out.below hb).blk.cell (i := 0) rfl
                  have yy1 := (NA.out.below hb).blk.cell (i := 1) rfl
                  have ff0 := (NA.out.below hb).blk.free 0
                  have ff1 := (NA.out.below hb).blk.free 1
                  have oo := (BO.out.upd (S := fun _ => False) (Upd.of_below hb) id).cell (i := 2) rfl
                  have PU := Lib.hid (peekI_some _ b b room v x0 xs NS.out.ring)
                  clear hb hrow y0 y1 o0 o2
                  go_wp2_with fail
                  refine PU.out.mono ?_
                  rintro e w4 ⟨rfl, hw4⟩
                  obtain ⟨v6, qa6, n6, qc6, xs6, N6, hx6⟩ : ∃ v6 qa6 n6 qc6 xs6, Hid (RQ W w4 b qb room v6 qa6 n6 qc6 xs6 xs6) ∧ xs6.length ≤ room := ⟨_, _, _, _, x0 :: xs, by rw [← hw4]; exact NS.out, hx⟩
                  subst hw4
                  clear yy0 yy1 ff0 ff1 oo
                  have tx : ((x0 : Int) != x0) = false := by simp
                  go_wp2_with fail
                  refine (values_any _ b b room v6 xs6 N6.out.ring (by omega)).mono ?_
                  rintro e w7 ⟨v7, rfl, hr7, hb7⟩
                  obtain ⟨a7, c7, rfl, hrest7⟩ := hr7
                  have RT7 : Hid (RT W b qb room v6 qa6 n6 qc6 xs6 a7 w7) := ⟨N6.out.below hb7, Rw.sl ⟨a7, c7, rfl, hrest7⟩⟩
                  obtain rfl : n6 = xs6.length := N6.out.hn
                  have LE : Hid (∀ w, RT W b qb room v6 qa6 xs6.length qc6 xs6 a7 w → Calls Try.prog 29 #[.pointer (some ⟨b, 0, none⟩)] w fun e w' => e = .returned (.int .i64 xs6.length) ∧ Qt w w') := fun w h => (lenI_any w b b room v6 xs6 h.1.ring).mono fun e w' h => ⟨h.1, by rw [← h.2]; exact Qt.refl _⟩
                  have RO : Hid (∀ w, RT W b qb room v6 qa6 xs6.length qc6 xs6 a7 w → Calls Try.prog 30 #[.pointer (some ⟨b, 0, none⟩)] w fun e w' => e = .returned (.int .i64 ((room : Int) - xs6.length)) ∧ Qt w w') := fun w h => roomI_any w b b room v6 xs6 h.1.ring (by omega) (by omega)
                  have EQ : Hid (∀ w, RT W b qb room v6 qa6 xs6.length qc6 xs6 a7 w → Calls Try.prog 31 #[.slice a7 xs6.length c7, .slice qa6 xs6.length qc6] w fun e w' => e = .returned (.bool true) ∧ Qt w w') := fun w h => (equalInt_any w a7 qa6 c7 qc6 xs6 xs6 h.2 h.1.row.sl (by unfold maxLen; omega)).mono fun e w' h => ⟨by rw [h.1]; simp, h.2⟩
                  have RTs := RT7.out.s
                  have t1 : (((xs6.length : Int)) != (xs6.length : Int)) = false := by simp
                  have t2 : (((room : Int) - (xs6.length : Int)) != ((room : Int) - (xs6.length : Int))) = false := by simp
                  have t3 : IntKind.i64.wrap ((room : Int) - xs6.length) = (room : Int) - xs6.length := IntWalk.i64_in _ (by omega)
                  clear hrest7 hb7
                  go_wp2_with fail
                  go_region_held3 (fun w' => w'.cell? ⟨qb, 1, none⟩ = some (.slice qa6 xs6.length qc6) ∧ RT W b qb room v6 qa6 xs6.length qc6 xs6 a7 w')
                    ((go_split_ands; first | exact (RT.drew (by assumption)).s | exact (RT.below (by assumption) (by assumption)).s | exact RT.s (by assumption) | go_keep))
                    (first
                      | (go_at_call 29; go_split_ands; refine (LE.out _ (RT.below (by assumption) (Below.refl _ _))).mono ?_; rintro e w' ⟨rfl, hq⟩; have hb := hq.bel)
                      | (go_at_call 30; go_split_ands; refine (RO.out _ (RT.below (by assumption) (Below.refl _ _))).mono ?_; rintro e w' ⟨rfl, hq⟩; have hb := hq.bel)
                      | (go_at_call 31; go_split_ands; refine (EQ.out _ (RT.below (by assumption) (Below.refl _ _))).mono ?_; rintro e w' ⟨rfl, hq⟩; have hb := hq.bel))
                  rename_i hHeld
                  have NF := Lib.hid (RT.below hHeld.2 (Below.refl _ _)).1
                  clear hHeld
                  go_wp2_with fail
                  go_roundw
                  case rel => exact ⟨k + 1, v6, qa6, xs6.length, qc6, xs6, by omega, by go_num, hx6, NF.out⟩
                  case measure => simp [intOf]; omega
              · have k0 : (xa == 0) = false := by simpa using h0
                have k1 : (xa == 1) = false := by simpa using h1
                have k2 : (xa == 2) = false := by simpa using h2
                obtain ⟨v6, qa6, n6, qc6, xs6, N6, hx6⟩ : ∃ v6 qa6 n6 qc6 xs6, Hid (RQ W (wr.alloc (.cells #[.int .i64 xa, .int .i64 xb, .int .i64 xc] 30)) b qb room v6 qa6 n6 qc6 xs6 xs6) ∧ xs6.length ≤ room := ⟨_, _, _, _, xs, NA.out, hx⟩
                clear y0 y1 o2
                go_wp2_with fail
                refine (values_any _ b b room v6 xs6 N6.out.ring (by omega)).mono ?_
                rintro e w7 ⟨v7, rfl, hr7, hb7⟩
                obtain ⟨a7, c7, rfl, hrest7⟩ := hr7
                have RT7 : Hid (RT W b qb room v6 qa6 n6 qc6 xs6 a7 w7) := ⟨N6.out.below hb7, Rw.sl ⟨a7, c7, rfl, hrest7⟩⟩
                obtain rfl : n6 = xs6.length := N6.out.hn
                have LE : Hid (∀ w, RT W b qb room v6 qa6 xs6.length qc6 xs6 a7 w → Calls Try.prog 29 #[.pointer (some ⟨b, 0, none⟩)] w fun e w' => e = .returned (.int .i64 xs6.length) ∧ Qt w w') := fun w h => (lenI_any w b b room v6 xs6 h.1.ring).mono fun e w' h => ⟨h.1, by rw [← h.2]; exact Qt.refl _⟩
                have RO : Hid (∀ w, RT W b qb room v6 qa6 xs6.length qc6 xs6 a7 w → Calls Try.prog 30 #[.pointer (some ⟨b, 0, none⟩)] w fun e w' => e = .returned (.int .i64 ((room : Int) - xs6.length)) ∧ Qt w w') := fun w h => roomI_any w b b room v6 xs6 h.1.ring (by omega) (by omega)
                have EQ : Hid (∀ w, RT W b qb room v6 qa6 xs6.length qc6 xs6 a7 w → Calls Try.prog 31 #[.slice a7 xs6.length c7, .slice qa6 xs6.length qc6] w fun e w' => e = .returned (.bool true) ∧ Qt w w') := fun w h => (equalInt_any w a7 qa6 c7 qc6 xs6 xs6 h.2 h.1.row.sl (by unfold maxLen; omega)).mono fun e w' h => ⟨by rw [h.1]; simp, h.2⟩
                have RTs := RT7.out.s
                have t1 : (((xs6.length : Int)) != (xs6.length : Int)) = false := by simp
                have t2 : (((room : Int) - (xs6.length : Int)) != ((room : Int) - (xs6.length : Int))) = false := by simp
                have t3 : IntKind.i64.wrap ((room : Int) - xs6.length) = (room : Int) - xs6.length := IntWalk.i64_in _ (by omega)
                clear hrest7 hb7
                go_wp2_with fail
                go_region_held3 (fun w' => w'.cell? ⟨qb, 1, none⟩ = some (.slice qa6 xs6.length qc6) ∧ RT W b qb room v6 qa6 xs6.length qc6 xs6 a7 w')
                  ((go_split_ands; first | exact (RT.drew (by assumption)).s | exact (RT.below (by assumption) (by assumption)).s | exact RT.s (by assumption) | go_keep))
                  (first
                    | (go_at_call 29; go_split_ands; refine (LE.out _ (RT.below (by assumption) (Below.refl _ _))).mono ?_; rintro e w' ⟨rfl, hq⟩; have hb := hq.bel)
                    | (go_at_call 30; go_split_ands; refine (RO.out _ (RT.below (by assumption) (Below.refl _ _))).mono ?_; rintro e w' ⟨rfl, hq⟩; have hb := hq.bel)
                    | (go_at_call 31; go_split_ands; refine (EQ.out _ (RT.below (by assumption) (Below.refl _ _))).mono ?_; rintro e w' ⟨rfl, hq⟩; have hb := hq.bel))
                rename_i hHeld
                have NF := Lib.hid (RT.below hHeld.2 (Below.refl _ _)).1
                clear hHeld
                go_wp2_with fail
                go_roundw
                case rel => exact ⟨k + 1, v6, qa6, xs6.length, qc6, xs6, by omega, by go_num, hx6, NF.out⟩
                case measure => simp [intOf]; omega
        · obtain rfl : k = l.length := by omega
          go_wp2_with fail
          go_ret
          exact ⟨rfl, N.out.bel⟩
end Go.Proofs.Ytdfncgfcggpgdaa
