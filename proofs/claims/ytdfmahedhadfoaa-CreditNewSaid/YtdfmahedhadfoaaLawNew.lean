/-
  The walk of the law CreditNew.
-/
import Derived.Test.YtdfmahedhadfoaaOne
import Derived.Test.YtdfmahedhadfoaaTak
namespace Go.Proofs.Ytdfmahedhadfoaa
open Go.RowKit
set_option linter.unusedVariables false

/-- The new giver and the new taker, where they exist. -/
structure NwMem (W : World) (zs : List Int) (gOk tOk : Prop) (g cb t ct m : Nat) (w : World) : Prop where
  hG : gOk → GAt w W.heap.size g cb (zs.map newG)
  hT : tOk → TAt w W.heap.size t ct (List.replicate m ⟨0, 0⟩)
  bel : Below W.heap.size W w
theorem NwMem.below {W : World} {zs : List Int} {gOk tOk : Prop} {g cb t ct m : Nat} {w w' : World} (h : NwMem W zs gOk tOk g cb t ct m w) (b : Below w.heap.size w w') : NwMem W zs gOk tOk g cb t ct m w' :=
  ⟨fun k => (h.hG k).below b, fun k => (h.hT k).below b, h.bel.trans (b.mono h.bel.size)⟩
theorem NwMem.drew {W : World} {zs : List Int} {gOk tOk : Prop} {g cb t ct m : Nat} {w : World} (h : NwMem W zs gOk tOk g cb t ct m w) : NwMem W zs gOk tOk g cb t ct m w.drew := h.below ((Qt.refl w).drewN 1).bel
def NwRet (W : World) (zs : List Int) (gOk tOk : Prop) (g cb t ct m : Nat) (v : Int) (e : Ending) (w : World) : Prop := e = .returned (.int .i64 v) ∧ NwMem W zs gOk tOk g cb t ct m w
def NwRel (W : World) (zs : List Int) (gOk tOk : Prop) (g cb t ct m len : Nat) (i : Value) (w : World) : Prop := ∃ k : Nat, k ≤ len ∧ i = .int .i64 k ∧ NwMem W zs gOk tOk g cb t ct m w
section
variable {W : World} {zs : List Int} {gOk tOk : Prop} {g cb t ct m : Nat} {w : World}
theorem nw_lim (h : NwMem W zs gOk tOk g cb t ct m w) (hg : gOk) (ok : OkRooms zs) {k : Nat} {z : Int} (hz : zs[k]? = some z) :
    Calls Try.prog 17 #[.pointer (some ⟨g, 0, none⟩), .int .i64 k] w (NwRet W zs gOk tOk g cb t ct m z) :=
  have hb := ok.hz z (List.mem_of_getElem? hz)
  (lim_ok w _ g cb k _ (newG z) (h.hG hg) (by simp [hz]) ⟨hb.1, hb.2, Int.le_refl _, Int.le_refl _, by simp [newG]; omega, by simp [newG]⟩ (by have := ok.h4; simp; omega)).mono fun e w' ⟨h1, h2⟩ => ⟨by rw [h1]; simp [newG], h.below h2⟩
theorem nw_held (h : NwMem W zs gOk tOk g cb t ct m w) (hg : gOk) (ok : OkRooms zs) {k : Nat} {z : Int} (hz : zs[k]? = some z) :
    Calls Try.prog 18 #[.pointer (some ⟨g, 0, none⟩), .int .i64 k] w (NwRet W zs gOk tOk g cb t ct m 0) :=
  have hb := ok.hz z (List.mem_of_getElem? hz)
  (held_ok w _ g cb k _ (newG z) (h.hG hg) (by simp [hz]) ⟨hb.1, hb.2, Int.le_refl _, Int.le_refl _, by simp [newG]; omega, by simp [newG]⟩ (by have := ok.h4; simp; omega)).mono fun e w' ⟨h1, h2⟩ => ⟨by rw [h1]; simp [newG], h.below h2⟩
theorem nw_sent (h : NwMem W zs gOk tOk g cb t ct m w) (ht : tOk) {k : Nat} (hk : k < m) (hm : m ≤ 4) :
    Calls Try.prog 26 #[.pointer (some ⟨t, 0, none⟩), .int .i64 k] w (NwRet W zs gOk tOk g cb t ct m 0) :=
  (sent_ok w _ t ct k _ ⟨0, 0⟩ (h.hT ht) (by simp [hk]) ⟨by decide, by decide, by decide⟩ (by simp; omega)).mono fun e w' ⟨h1, h2⟩ => ⟨h1, h.below h2⟩
theorem nw_left (h : NwMem W zs gOk tOk g cb t ct m w) (ht : tOk) {k : Nat} (hk : k < m) (hm : m ≤ 4) :
    Calls Try.prog 25 #[.pointer (some ⟨t, 0, none⟩), .int .i64 k] w (NwRet W zs gOk tOk g cb t ct m 0) :=
  (left_ok w _ t ct k _ ⟨0, 0⟩ (h.hT ht) (by simp [hk]) ⟨by decide, by decide, by decide⟩ (by simp; omega)).mono fun e w' ⟨h1, h2⟩ => ⟨h1, h.below h2⟩
end

set_option maxHeartbeats 8000000 in
set_option maxRecDepth 100000 in
theorem creditNew_walk (W : World) (a0 : Option Addr) (c0 : Nat) (zs : List Int) (s0 : SlI W a0 zs) (g0 : ∀ y ∈ zs, IntOk .i64 y) (m0 : zs.length ≤ maxLen) (cl : Int) (w1 : (Lit.int .i64 cl).wf = true) (c : Int) (w2 : (Lit.int .i64 c).wf = true) :
    Calls Try.prog 8 #[.slice a0 zs.length c0, .int .i64 cl, .int .i64 c] W fun e W' => e = .returned (.bool true) ∧ Below W.heap.size W W' := by
  have HAW := Lib.hid (awake_ok W)
  have S0 := Lib.hid s0; have M0 := Lib.hid m0
  clear s0 g0 w1 w2
  unfold maxLen at m0
  by_cases h20 : (20 : Int) < (zs.length : Int)
  · go_enter Try.func8, Try.ntmps8
    go_wp2_with fail
    refine HAW.out.mono ?_
    rintro e w1 ⟨rfl, hb⟩
    have B1 := Lib.hid hb; clear hb
    go_wp2_with fail
    go_ret
    exact ⟨rfl, B1.out⟩
  have N1 := Lib.hid fun w s x => aud_nil w s x
  have N2 := Lib.hid rec_nil
  have N3 := Lib.hid fre_nil
  have N4 := Lib.hid lim_nil
  have N5 := Lib.hid held_nil
  have N6 := Lib.hid rai_nil
  have N7 := Lib.hid tak_nil
  have N8 := Lib.hid sent_nil
  have N9 := Lib.hid left_nil
  go_enter Try.func8, Try.ntmps8
  go_wp2_with fail
  refine HAW.out.mono ?_
  rintro e w1 ⟨rfl, hb⟩
  have B1 := Lib.hid hb; clear hb
  have NG := Lib.hid (newG_any w1 a0 c0 zs (S0.out.below B1.out) M0.out)
  go_wp2_with fail
  refine NG.out.mono ?_
  intro e w2 hp
  have hcl : cl < 1 ∨ (¬ cl < 1 ∧ 4 < cl) ∨ (¬ cl < 1 ∧ ¬ 4 < cl) := by omega
  have HCL := Lib.hid hcl; clear hcl
  rcases hp with ⟨hok, rfl, hG, hB, hz⟩ | ⟨hno, rfl, hB⟩
  · have HOK := Lib.hid hok; have B2 := Lib.hid (B1.out.trans (hB.mono B1.out.size))
    have G2 := Lib.hid (hG.base B1.out.size); have hz2 := hz
    clear hok hG hB hz
    generalize w1.heap.size + 1 = g at *
    generalize w1.heap.size = cb at *
    rcases HCL.out with hc1 | ⟨hc1, hc2⟩ | ⟨hc1, hc2⟩
    · as_aux_lemma =>
        clear HCL
        have NT := Lib.hid (newT_bad w2 cl (.inl hc1))
        obtain ⟨t, ct, m, _⟩ : ∃ t ct m : Nat, t = ct := ⟨0, 0, 0, rfl⟩
        go_wp2_with fail
        refine NT.out.mono ?_
        rintro e w3 ⟨rfl, rfl⟩
        obtain ⟨w3, rfl⟩ : ∃ w3 : World, w3 = w2 := ⟨_, rfl⟩
        have X3 : Hid (NwMem W zs True False g cb t ct m w3) := ⟨fun _ => G2.out, fun h => h.elim, B2.out⟩
        clear NT
        have RM := Lib.hid (rooms_any w3 a0 c0 zs (S0.out.below X3.out.bel) M0.out)
        go_wp2_with fail
        refine RM.out.mono ?_
        rintro e w4 ⟨hp, rfl⟩
        rcases hp with ⟨_, rfl⟩ | ⟨h, _⟩
        rotate_left
        · exact absurd HOK.out h
        go_wp2_with fail
        go_loopw [11] (fun i w => NwRel W zs True False g cb t ct m zs.length i w) (fun i _ => zs.length - (intOf i).toNat)
        case atStart => exact ⟨0, Nat.zero_le _, rfl, X3.out⟩
        case round =>
          obtain ⟨k, hk, rfl, hX⟩ := hrel
          have X4 := Lib.hid hX; clear hX
          by_cases hlt : k < zs.length
          · as_aux_lemma =>
              obtain ⟨z, ez, okz, cz⟩ := (S0.out.below X4.out.bel).get (k := k) hlt
              have LI := Lib.hid fun w (h : NwMem W zs True False g cb t ct m w) => nw_lim h trivial HOK.out ez.out
              have HE := Lib.hid fun w (h : NwMem W zs True False g cb t ct m w) => nw_held h trivial HOK.out ez.out
              have SS : Hid (∀ w', NwMem W zs True False g cb t ct m w' → (w'.cell? (adr a0 k) = some (.int .i64 z) ∧ NwMem W zs True False g cb t ct m w')) := fun w' h => ⟨((S0.out.below h.bel) k z ez.out).2, h⟩
              have t1 : ((z : Int) != z) = false := by simp
              have b0 : (0 : Int) ≤ (k : Int) := by omega
              have b1 : (k : Int) < (zs.length : Int) := by omega
              go_wp2_with fail
              go_region_held3 (fun w' => w'.cell? (adr a0 k) = some (.int .i64 z) ∧ NwMem W zs True False g cb t ct m w')
                ((go_split_ands; first | exact SS.out _ (NwMem.drew (by assumption)) | exact SS.out _ (by assumption)))
                (first
                  | (go_at_call 17; go_split_ands; refine (LI.out _ (by assumption)).mono ?_; rintro e w' ⟨rfl, hb⟩)
                  | (go_at_call 18; go_split_ands; refine (HE.out _ (by assumption)).mono ?_; rintro e w' ⟨rfl, hb⟩))
              all_goals
                go_wp2_with fail
                go_roundw
                case rel => exact ⟨k + 1, by omega, by go_num, by go_split_ands; assumption⟩
                case measure => simp [intOf]; omega
          · obtain rfl : k = zs.length := by omega
            clear hlt
            go_wp2_with fail
            go_loopw [12] (fun i w => NwRel W zs True False g cb t ct m m i w) (fun i _ => m - (intOf i).toNat)
            case atStart => exact ⟨0, Nat.zero_le _, rfl, X4.out⟩
            case round =>
              obtain ⟨j, hj, rfl, hX⟩ := hrel
              have X5 := Lib.hid hX; clear hX
              as_aux_lemma =>
                have B5 := Lib.hid X5.out.bel
                go_wp2_with fail
                refine (N1.out _ c 0).mono ?_
                rintro e w6 ⟨rfl, hb⟩
                have Bw6 := Lib.hid (B5.out.trans (hb.mono B5.out.size)); clear hb
                go_wp2_with fail
                refine (N2.out w6 c).mono ?_
                rintro e wx ⟨rfl, rfl⟩
                go_wp2_with fail
                refine (N3.out w6 c).mono ?_
                rintro e wx ⟨rfl, rfl⟩
                go_wp2_with fail
                refine (N4.out w6 c).mono ?_
                rintro e w7 ⟨rfl, hb⟩
                have Bw7 := Lib.hid (Bw6.out.trans (hb.mono Bw6.out.size)); clear hb
                go_wp2_with fail
                refine (N5.out w7 c).mono ?_
                rintro e w8 ⟨rfl, hb⟩
                have Bw8 := Lib.hid (Bw7.out.trans (hb.mono Bw7.out.size)); clear hb
                go_wp2_with fail
                refine (N6.out w8 c 1).mono ?_
                rintro e w9 ⟨rfl, hb⟩
                have Bw9 := Lib.hid (Bw8.out.trans (hb.mono Bw8.out.size)); clear hb
                go_wp2_with fail
                refine (N7.out w9 c).mono ?_
                rintro e wx ⟨rfl, rfl⟩
                go_wp2_with fail
                refine (N8.out w9 c).mono ?_
                rintro e w10 ⟨rfl, hb⟩
                have Bw10 := Lib.hid (Bw9.out.trans (hb.mono Bw9.out.size)); clear hb
                go_wp2_with fail
                refine (N9.out w10 c).mono ?_
                rintro e w11 ⟨rfl, hb⟩
                have Bw11 := Lib.hid (Bw10.out.trans (hb.mono Bw10.out.size)); clear hb
                go_wp2_with fail
                go_ret
                exact ⟨rfl, Bw11.out⟩
    · as_aux_lemma =>
        clear HCL
        have NT := Lib.hid (newT_bad w2 cl (.inr hc2))
        obtain ⟨t, ct, m, _⟩ : ∃ t ct m : Nat, t = ct := ⟨0, 0, 0, rfl⟩
        go_wp2_with fail
        refine NT.out.mono ?_
        rintro e w3 ⟨rfl, rfl⟩
        obtain ⟨w3, rfl⟩ : ∃ w3 : World, w3 = w2 := ⟨_, rfl⟩
        have X3 : Hid (NwMem W zs True False g cb t ct m w3) := ⟨fun _ => G2.out, fun h => h.elim, B2.out⟩
        clear NT
        have RM := Lib.hid (rooms_any w3 a0 c0 zs (S0.out.below X3.out.bel) M0.out)
        go_wp2_with fail
        refine RM.out.mono ?_
        rintro e w4 ⟨hp, rfl⟩
        rcases hp with ⟨_, rfl⟩ | ⟨h, _⟩
        rotate_left
        · exact absurd HOK.out h
        go_wp2_with fail
        go_loopw [11] (fun i w => NwRel W zs True False g cb t ct m zs.length i w) (fun i _ => zs.length - (intOf i).toNat)
        case atStart => exact ⟨0, Nat.zero_le _, rfl, X3.out⟩
        case round =>
          obtain ⟨k, hk, rfl, hX⟩ := hrel
          have X4 := Lib.hid hX; clear hX
          by_cases hlt : k < zs.length
          · as_aux_lemma =>
              obtain ⟨z, ez, okz, cz⟩ := (S0.out.below X4.out.bel).get (k := k) hlt
              have LI := Lib.hid fun w (h : NwMem W zs True False g cb t ct m w) => nw_lim h trivial HOK.out ez.out
              have HE := Lib.hid fun w (h : NwMem W zs True False g cb t ct m w) => nw_held h trivial HOK.out ez.out
              have SS : Hid (∀ w', NwMem W zs True False g cb t ct m w' → (w'.cell? (adr a0 k) = some (.int .i64 z) ∧ NwMem W zs True False g cb t ct m w')) := fun w' h => ⟨((S0.out.below h.bel) k z ez.out).2, h⟩
              have t1 : ((z : Int) != z) = false := by simp
              have b0 : (0 : Int) ≤ (k : Int) := by omega
              have b1 : (k : Int) < (zs.length : Int) := by omega
              go_wp2_with fail
              go_region_held3 (fun w' => w'.cell? (adr a0 k) = some (.int .i64 z) ∧ NwMem W zs True False g cb t ct m w')
                ((go_split_ands; first | exact SS.out _ (NwMem.drew (by assumption)) | exact SS.out _ (by assumption)))
                (first
                  | (go_at_call 17; go_split_ands; refine (LI.out _ (by assumption)).mono ?_; rintro e w' ⟨rfl, hb⟩)
                  | (go_at_call 18; go_split_ands; refine (HE.out _ (by assumption)).mono ?_; rintro e w' ⟨rfl, hb⟩))
              all_goals
                go_wp2_with fail
                go_roundw
                case rel => exact ⟨k + 1, by omega, by go_num, by go_split_ands; assumption⟩
                case measure => simp [intOf]; omega
          · obtain rfl : k = zs.length := by omega
            clear hlt
            go_wp2_with fail
            go_loopw [12] (fun i w => NwRel W zs True False g cb t ct m m i w) (fun i _ => m - (intOf i).toNat)
            case atStart => exact ⟨0, Nat.zero_le _, rfl, X4.out⟩
            case round =>
              obtain ⟨j, hj, rfl, hX⟩ := hrel
              have X5 := Lib.hid hX; clear hX
              as_aux_lemma =>
                have B5 := Lib.hid X5.out.bel
                go_wp2_with fail
                refine (N1.out _ c 0).mono ?_
                rintro e w6 ⟨rfl, hb⟩
                have Bw6 := Lib.hid (B5.out.trans (hb.mono B5.out.size)); clear hb
                go_wp2_with fail
                refine (N2.out w6 c).mono ?_
                rintro e wx ⟨rfl, rfl⟩
                go_wp2_with fail
                refine (N3.out w6 c).mono ?_
                rintro e wx ⟨rfl, rfl⟩
                go_wp2_with fail
                refine (N4.out w6 c).mono ?_
                rintro e w7 ⟨rfl, hb⟩
                have Bw7 := Lib.hid (Bw6.out.trans (hb.mono Bw6.out.size)); clear hb
                go_wp2_with fail
                refine (N5.out w7 c).mono ?_
                rintro e w8 ⟨rfl, hb⟩
                have Bw8 := Lib.hid (Bw7.out.trans (hb.mono Bw7.out.size)); clear hb
                go_wp2_with fail
                refine (N6.out w8 c 1).mono ?_
                rintro e w9 ⟨rfl, hb⟩
                have Bw9 := Lib.hid (Bw8.out.trans (hb.mono Bw8.out.size)); clear hb
                go_wp2_with fail
                refine (N7.out w9 c).mono ?_
                rintro e wx ⟨rfl, rfl⟩
                go_wp2_with fail
                refine (N8.out w9 c).mono ?_
                rintro e w10 ⟨rfl, hb⟩
                have Bw10 := Lib.hid (Bw9.out.trans (hb.mono Bw9.out.size)); clear hb
                go_wp2_with fail
                refine (N9.out w10 c).mono ?_
                rintro e w11 ⟨rfl, hb⟩
                have Bw11 := Lib.hid (Bw10.out.trans (hb.mono Bw10.out.size)); clear hb
                go_wp2_with fail
                go_ret
                exact ⟨rfl, Bw11.out⟩
    · as_aux_lemma =>
        clear HCL
        obtain ⟨m, rfl⟩ := Int.eq_ofNat_of_zero_le (show 0 ≤ cl by omega)
        have hm1 : 1 ≤ m := by omega
        have hm4 : m ≤ 4 := by omega
        clear hc1 hc2
        have NT := Lib.hid (newT_ok w2 m hm1 hm4)
        go_wp2_with fail
        refine NT.out.mono ?_
        rintro e w3 ⟨rfl, hT, hB, hz⟩
        have X3 : Hid (NwMem W zs True True g cb (w2.heap.size + 1) w2.heap.size m w3) := ⟨fun _ => G2.out.below hB, fun _ => ⟨hT.hg, hT.hc, hT.ne, by have := B2.out.size; omega, B2.out.size⟩, B2.out.trans (hB.mono B2.out.size)⟩
        clear hT hB hz NT
        generalize w2.heap.size + 1 = t at *
        generalize w2.heap.size = ct at *
        have RM := Lib.hid (rooms_any w3 a0 c0 zs (S0.out.below X3.out.bel) M0.out)
        go_wp2_with fail
        refine RM.out.mono ?_
        rintro e w4 ⟨hp, rfl⟩
        rcases hp with ⟨_, rfl⟩ | ⟨h, _⟩
        rotate_left
        · exact absurd HOK.out h
        go_wp2_with fail
        go_loopw [11] (fun i w => NwRel W zs True True g cb t ct m zs.length i w) (fun i _ => zs.length - (intOf i).toNat)
        case atStart => exact ⟨0, Nat.zero_le _, rfl, X3.out⟩
        case round =>
          obtain ⟨k, hk, rfl, hX⟩ := hrel
          have X4 := Lib.hid hX; clear hX
          by_cases hlt : k < zs.length
          · as_aux_lemma =>
              obtain ⟨z, ez, okz, cz⟩ := (S0.out.below X4.out.bel).get (k := k) hlt
              have LI := Lib.hid fun w (h : NwMem W zs True True g cb t ct m w) => nw_lim h trivial HOK.out ez.out
              have HE := Lib.hid fun w (h : NwMem W zs True True g cb t ct m w) => nw_held h trivial HOK.out ez.out
              have SS : Hid (∀ w', NwMem W zs True True g cb t ct m w' → (w'.cell? (adr a0 k) = some (.int .i64 z) ∧ NwMem W zs True True g cb t ct m w')) := fun w' h => ⟨((S0.out.below h.bel) k z ez.out).2, h⟩
              have t1 : ((z : Int) != z) = false := by simp
              have b0 : (0 : Int) ≤ (k : Int) := by omega
              have b1 : (k : Int) < (zs.length : Int) := by omega
              go_wp2_with fail
              go_region_held3 (fun w' => w'.cell? (adr a0 k) = some (.int .i64 z) ∧ NwMem W zs True True g cb t ct m w')
                ((go_split_ands; first | exact SS.out _ (NwMem.drew (by assumption)) | exact SS.out _ (by assumption)))
                (first
                  | (go_at_call 17; go_split_ands; refine (LI.out _ (by assumption)).mono ?_; rintro e w' ⟨rfl, hb⟩)
                  | (go_at_call 18; go_split_ands; refine (HE.out _ (by assumption)).mono ?_; rintro e w' ⟨rfl, hb⟩))
              all_goals
                go_wp2_with fail
                go_roundw
                case rel => exact ⟨k + 1, by omega, by go_num, by go_split_ands; assumption⟩
                case measure => simp [intOf]; omega
          · obtain rfl : k = zs.length := by omega
            clear hlt
            go_wp2_with fail
            go_loopw [12] (fun i w => NwRel W zs True True g cb t ct m m i w) (fun i _ => m - (intOf i).toNat)
            case atStart => exact ⟨0, Nat.zero_le _, rfl, X4.out⟩
            case round =>
              obtain ⟨j, hj, rfl, hX⟩ := hrel
              have X5 := Lib.hid hX; clear hX
              by_cases hlt2 : j < m
              · as_aux_lemma =>
                  have SE := Lib.hid fun w (h : NwMem W zs True True g cb t ct m w) => nw_sent h trivial hlt2 hm4
                  have LE := Lib.hid fun w (h : NwMem W zs True True g cb t ct m w) => nw_left h trivial hlt2 hm4
                  go_wp2_with fail
                  refine (SE.out _ X5.out).mono ?_
                  rintro e w6 ⟨rfl, hX⟩
                  have X6 := Lib.hid hX; clear hX
                  go_wp2_with fail
                  refine (LE.out _ X6.out).mono ?_
                  rintro e w7 ⟨rfl, hX⟩
                  have X7 := Lib.hid hX; clear hX
                  go_wp2_with fail
                  go_roundw
                  case rel => exact ⟨j + 1, by omega, by go_num, X7.out⟩
                  case measure => simp [intOf]; omega
              · obtain rfl : j = m := by omega
                clear hlt2
                as_aux_lemma =>
                  have B5 := Lib.hid X5.out.bel
                  go_wp2_with fail
                  refine (N1.out _ c 0).mono ?_
                  rintro e w6 ⟨rfl, hb⟩
                  have Bw6 := Lib.hid (B5.out.trans (hb.mono B5.out.size)); clear hb
                  go_wp2_with fail
                  refine (N2.out w6 c).mono ?_
                  rintro e wx ⟨rfl, rfl⟩
                  go_wp2_with fail
                  refine (N3.out w6 c).mono ?_
                  rintro e wx ⟨rfl, rfl⟩
                  go_wp2_with fail
                  refine (N4.out w6 c).mono ?_
                  rintro e w7 ⟨rfl, hb⟩
                  have Bw7 := Lib.hid (Bw6.out.trans (hb.mono Bw6.out.size)); clear hb
                  go_wp2_with fail
                  refine (N5.out w7 c).mono ?_
                  rintro e w8 ⟨rfl, hb⟩
                  have Bw8 := Lib.hid (Bw7.out.trans (hb.mono Bw7.out.size)); clear hb
                  go_wp2_with fail
                  refine (N6.out w8 c 1).mono ?_
                  rintro e w9 ⟨rfl, hb⟩
                  have Bw9 := Lib.hid (Bw8.out.trans (hb.mono Bw8.out.size)); clear hb
                  go_wp2_with fail
                  refine (N7.out w9 c).mono ?_
                  rintro e wx ⟨rfl, rfl⟩
                  go_wp2_with fail
                  refine (N8.out w9 c).mono ?_
                  rintro e w10 ⟨rfl, hb⟩
                  have Bw10 := Lib.hid (Bw9.out.trans (hb.mono Bw9.out.size)); clear hb
                  go_wp2_with fail
                  refine (N9.out w10 c).mono ?_
                  rintro e w11 ⟨rfl, hb⟩
                  have Bw11 := Lib.hid (Bw10.out.trans (hb.mono Bw10.out.size)); clear hb
                  go_wp2_with fail
                  go_ret
                  exact ⟨rfl, Bw11.out⟩
  · have HNO := Lib.hid hno; have B2 := Lib.hid (B1.out.trans (hB.mono B1.out.size))
    clear hno hB
    obtain ⟨g, cb, _⟩ : ∃ g cb : Nat, g = cb := ⟨0, 0, rfl⟩
    rcases HCL.out with hc1 | ⟨hc1, hc2⟩ | ⟨hc1, hc2⟩
    · as_aux_lemma =>
        clear HCL
        have NT := Lib.hid (newT_bad w2 cl (.inl hc1))
        obtain ⟨t, ct, m, _⟩ : ∃ t ct m : Nat, t = ct := ⟨0, 0, 0, rfl⟩
        go_wp2_with fail
        refine NT.out.mono ?_
        rintro e w3 ⟨rfl, rfl⟩
        obtain ⟨w3, rfl⟩ : ∃ w3 : World, w3 = w2 := ⟨_, rfl⟩
        have X3 : Hid (NwMem W zs False False g cb t ct m w3) := ⟨fun h => h.elim, fun h => h.elim, B2.out⟩
        clear NT
        have RM := Lib.hid (rooms_any w3 a0 c0 zs (S0.out.below X3.out.bel) M0.out)
        go_wp2_with fail
        refine RM.out.mono ?_
        rintro e w4 ⟨hp, rfl⟩
        rcases hp with ⟨h, _⟩ | ⟨_, rfl⟩
        · exact absurd h HNO.out
        go_wp2_with fail
        go_loopw [11] (fun i w => NwRel W zs False False g cb t ct m zs.length i w) (fun i _ => zs.length - (intOf i).toNat)
        case atStart => exact ⟨0, Nat.zero_le _, rfl, X3.out⟩
        case round =>
          obtain ⟨k, hk, rfl, hX⟩ := hrel
          have X4 := Lib.hid hX; clear hX
          go_wp2_with fail
          go_loopw [12] (fun i w => NwRel W zs False False g cb t ct m m i w) (fun i _ => m - (intOf i).toNat)
          case atStart => exact ⟨0, Nat.zero_le _, rfl, X4.out⟩
          case round =>
            obtain ⟨j, hj, rfl, hX⟩ := hrel
            have X5 := Lib.hid hX; clear hX
            as_aux_lemma =>
              have B5 := Lib.hid X5.out.bel
              go_wp2_with fail
              refine (N1.out _ c 0).mono ?_
              rintro e w6 ⟨rfl, hb⟩
              have Bw6 := Lib.hid (B5.out.trans (hb.mono B5.out.size)); clear hb
              go_wp2_with fail
              refine (N2.out w6 c).mono ?_
              rintro e wx ⟨rfl, rfl⟩
              go_wp2_with fail
              refine (N3.out w6 c).mono ?_
              rintro e wx ⟨rfl, rfl⟩
              go_wp2_with fail
              refine (N4.out w6 c).mono ?_
              rintro e w7 ⟨rfl, hb⟩
              have Bw7 := Lib.hid (Bw6.out.trans (hb.mono Bw6.out.size)); clear hb
              go_wp2_with fail
              refine (N5.out w7 c).mono ?_
              rintro e w8 ⟨rfl, hb⟩
              have Bw8 := Lib.hid (Bw7.out.trans (hb.mono Bw7.out.size)); clear hb
              go_wp2_with fail
              refine (N6.out w8 c 1).mono ?_
              rintro e w9 ⟨rfl, hb⟩
              have Bw9 := Lib.hid (Bw8.out.trans (hb.mono Bw8.out.size)); clear hb
              go_wp2_with fail
              refine (N7.out w9 c).mono ?_
              rintro e wx ⟨rfl, rfl⟩
              go_wp2_with fail
              refine (N8.out w9 c).mono ?_
              rintro e w10 ⟨rfl, hb⟩
              have Bw10 := Lib.hid (Bw9.out.trans (hb.mono Bw9.out.size)); clear hb
              go_wp2_with fail
              refine (N9.out w10 c).mono ?_
              rintro e w11 ⟨rfl, hb⟩
              have Bw11 := Lib.hid (Bw10.out.trans (hb.mono Bw10.out.size)); clear hb
              go_wp2_with fail
              go_ret
              exact ⟨rfl, Bw11.out⟩
    · as_aux_lemma =>
        clear HCL
        have NT := Lib.hid (newT_bad w2 cl (.inr hc2))
        obtain ⟨t, ct, m, _⟩ : ∃ t ct m : Nat, t = ct := ⟨0, 0, 0, rfl⟩
        go_wp2_with fail
        refine NT.out.mono ?_
        rintro e w3 ⟨rfl, rfl⟩
        obtain ⟨w3, rfl⟩ : ∃ w3 : World, w3 = w2 := ⟨_, rfl⟩
        have X3 : Hid (NwMem W zs False False g cb t ct m w3) := ⟨fun h => h.elim, fun h => h.elim, B2.out⟩
        clear NT
        have RM := Lib.hid (rooms_any w3 a0 c0 zs (S0.out.below X3.out.bel) M0.out)
        go_wp2_with fail
        refine RM.out.mono ?_
        rintro e w4 ⟨hp, rfl⟩
        rcases hp with ⟨h, _⟩ | ⟨_, rfl⟩
        · exact absurd h HNO.out
        go_wp2_with fail
        go_loopw [11] (fun i w => NwRel W zs False False g cb t ct m zs.length i w) (fun i _ => zs.length - (intOf i).toNat)
        case atStart => exact ⟨0, Nat.zero_le _, rfl, X3.out⟩
        case round =>
          obtain ⟨k, hk, rfl, hX⟩ := hrel
          have X4 := Lib.hid hX; clear hX
          go_wp2_with fail
          go_loopw [12] (fun i w => NwRel W zs False False g cb t ct m m i w) (fun i _ => m - (intOf i).toNat)
          case atStart => exact ⟨0, Nat.zero_le _, rfl, X4.out⟩
          case round =>
            obtain ⟨j, hj, rfl, hX⟩ := hrel
            have X5 := Lib.hid hX; clear hX
            as_aux_lemma =>
              have B5 := Lib.hid X5.out.bel
              go_wp2_with fail
              refine (N1.out _ c 0).mono ?_
              rintro e w6 ⟨rfl, hb⟩
              have Bw6 := Lib.hid (B5.out.trans (hb.mono B5.out.size)); clear hb
              go_wp2_with fail
              refine (N2.out w6 c).mono ?_
              rintro e wx ⟨rfl, rfl⟩
              go_wp2_with fail
              refine (N3.out w6 c).mono ?_
              rintro e wx ⟨rfl, rfl⟩
              go_wp2_with fail
              refine (N4.out w6 c).mono ?_
              rintro e w7 ⟨rfl, hb⟩
              have Bw7 := Lib.hid (Bw6.out.trans (hb.mono Bw6.out.size)); clear hb
              go_wp2_with fail
              refine (N5.out w7 c).mono ?_
              rintro e w8 ⟨rfl, hb⟩
              have Bw8 := Lib.hid (Bw7.out.trans (hb.mono Bw7.out.size)); clear hb
              go_wp2_with fail
              refine (N6.out w8 c 1).mono ?_
              rintro e w9 ⟨rfl, hb⟩
              have Bw9 := Lib.hid (Bw8.out.trans (hb.mono Bw8.out.size)); clear hb
              go_wp2_with fail
              refine (N7.out w9 c).mono ?_
              rintro e wx ⟨rfl, rfl⟩
              go_wp2_with fail
              refine (N8.out w9 c).mono ?_
              rintro e w10 ⟨rfl, hb⟩
              have Bw10 := Lib.hid (Bw9.out.trans (hb.mono Bw9.out.size)); clear hb
              go_wp2_with fail
              refine (N9.out w10 c).mono ?_
              rintro e w11 ⟨rfl, hb⟩
              have Bw11 := Lib.hid (Bw10.out.trans (hb.mono Bw10.out.size)); clear hb
              go_wp2_with fail
              go_ret
              exact ⟨rfl, Bw11.out⟩
    · as_aux_lemma =>
        clear HCL
        obtain ⟨m, rfl⟩ := Int.eq_ofNat_of_zero_le (show 0 ≤ cl by omega)
        have hm1 : 1 ≤ m := by omega
        have hm4 : m ≤ 4 := by omega
        clear hc1 hc2
        have NT := Lib.hid (newT_ok w2 m hm1 hm4)
        go_wp2_with fail
        refine NT.out.mono ?_
        rintro e w3 ⟨rfl, hT, hB, hz⟩
        have X3 : Hid (NwMem W zs False True g cb (w2.heap.size + 1) w2.heap.size m w3) := ⟨fun h => h.elim, fun _ => ⟨hT.hg, hT.hc, hT.ne, by have := B2.out.size; omega, B2.out.size⟩, B2.out.trans (hB.mono B2.out.size)⟩
        clear hT hB hz NT
        generalize w2.heap.size + 1 = t at *
        generalize w2.heap.size = ct at *
        have RM := Lib.hid (rooms_any w3 a0 c0 zs (S0.out.below X3.out.bel) M0.out)
        go_wp2_with fail
        refine RM.out.mono ?_
        rintro e w4 ⟨hp, rfl⟩
        rcases hp with ⟨h, _⟩ | ⟨_, rfl⟩
        · exact absurd h HNO.out
        go_wp2_with fail
        go_loopw [11] (fun i w => NwRel W zs False True g cb t ct m zs.length i w) (fun i _ => zs.length - (intOf i).toNat)
        case atStart => exact ⟨0, Nat.zero_le _, rfl, X3.out⟩
        case round =>
          obtain ⟨k, hk, rfl, hX⟩ := hrel
          have X4 := Lib.hid hX; clear hX
          go_wp2_with fail
          go_loopw [12] (fun i w => NwRel W zs False True g cb t ct m m i w) (fun i _ => m - (intOf i).toNat)
          case atStart => exact ⟨0, Nat.zero_le _, rfl, X4.out⟩
          case round =>
            obtain ⟨j, hj, rfl, hX⟩ := hrel
            have X5 := Lib.hid hX; clear hX
            by_cases hlt2 : j < m
            · as_aux_lemma =>
                have SE := Lib.hid fun w (h : NwMem W zs False True g cb t ct m w) => nw_sent h trivial hlt2 hm4
                have LE := Lib.hid fun w (h : NwMem W zs False True g cb t ct m w) => nw_left h trivial hlt2 hm4
                go_wp2_with fail
                refine (SE.out _ X5.out).mono ?_
                rintro e w6 ⟨rfl, hX⟩
                have X6 := Lib.hid hX; clear hX
                go_wp2_with fail
                refine (LE.out _ X6.out).mono ?_
                rintro e w7 ⟨rfl, hX⟩
                have X7 := Lib.hid hX; clear hX
                go_wp2_with fail
                go_roundw
                case rel => exact ⟨j + 1, by omega, by go_num, X7.out⟩
                case measure => simp [intOf]; omega
            · obtain rfl : j = m := by omega
              clear hlt2
              as_aux_lemma =>
                have B5 := Lib.hid X5.out.bel
                go_wp2_with fail
                refine (N1.out _ c 0).mono ?_
                rintro e w6 ⟨rfl, hb⟩
                have Bw6 := Lib.hid (B5.out.trans (hb.mono B5.out.size)); clear hb
                go_wp2_with fail
                refine (N2.out w6 c).mono ?_
                rintro e wx ⟨rfl, rfl⟩
                go_wp2_with fail
                refine (N3.out w6 c).mono ?_
                rintro e wx ⟨rfl, rfl⟩
                go_wp2_with fail
                refine (N4.out w6 c).mono ?_
                rintro e w7 ⟨rfl, hb⟩
                have Bw7 := Lib.hid (Bw6.out.trans (hb.mono Bw6.out.size)); clear hb
                go_wp2_with fail
                refine (N5.out w7 c).mono ?_
                rintro e w8 ⟨rfl, hb⟩
                have Bw8 := Lib.hid (Bw7.out.trans (hb.mono Bw7.out.size)); clear hb
                go_wp2_with fail
                refine (N6.out w8 c 1).mono ?_
                rintro e w9 ⟨rfl, hb⟩
                have Bw9 := Lib.hid (Bw8.out.trans (hb.mono Bw8.out.size)); clear hb
                go_wp2_with fail
                refine (N7.out w9 c).mono ?_
                rintro e wx ⟨rfl, rfl⟩
                go_wp2_with fail
                refine (N8.out w9 c).mono ?_
                rintro e w10 ⟨rfl, hb⟩
                have Bw10 := Lib.hid (Bw9.out.trans (hb.mono Bw9.out.size)); clear hb
                go_wp2_with fail
                refine (N9.out w10 c).mono ?_
                rintro e w11 ⟨rfl, hb⟩
                have Bw11 := Lib.hid (Bw10.out.trans (hb.mono Bw10.out.size)); clear hb
                go_wp2_with fail
                go_ret
                exact ⟨rfl, Bw11.out⟩
end Go.Proofs.Ytdfmahedhadfoaa
