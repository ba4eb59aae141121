/-
  The walk of the law RingLeaves.
-/
import Derived.Test.YtdfncgfcggpgdaaVals
import Derived.Test.YtdfncgfcggpgdaaOpen
namespace Go.Proofs.Ytdfncgfcggpgdaa
open Go.RowKit Go.Shelf
set_option linter.unusedVariables false
attribute [local go_sem] Oper.semAt_some

theorem u8_bounds {n : Int} (h : (Lit.int .u8 n).wf = true) : 0 ≤ n ∧ n ≤ 255 := by simpa [Lit.wf, IntKind.min, IntKind.max, IntKind.signed, IntKind.bits] using h
abbrev RAt (w : World) (base b : Nat) (v : Value) (xs : List Int) : Prop := RingAt (Value.int .i64) 3 88 w base b 64 v xs
theorem ring_own (base b : Nat) (v : Value) (zs : List Int) : Own (fun (_ : List (Nat × Int)) W => RAt W base b v zs) := by
  rintro s X Y row ⟨h1, h2, h3⟩ hg hrow
  have hne : ∀ k T cs, X.heap[k]? = some (.cells cs T (0, 0)) → some k ≠ row := fun k T cs hk e => by
    obtain ⟨o, ho, hc⟩ := hrow k e.symm
    rw [hk] at ho
    cases ho
    cases hc
  refine ⟨h1.of_heap (hg.block b h1.lt (hne b _ _ h1)), h2.kept hg ?_, h3⟩
  rcases h2.2 with ⟨e, _⟩ | ⟨g, cap, cur, e, _, hgb, _⟩
  · exact .inl (by rw [e]; rfl)
  · exact .inr (by rw [e]; intro e'; exact hne g _ _ hgb e')
theorem boxed_own' (B : Nat) (t : TypeId) (f : List (Nat × Int) → Value) : Own (fun (s : List (Nat × Int)) W => Boxed W B t (f s)) := by
  rintro s X Y row hv hg hrow
  refine hv.kept hg (fun e' => ?_)
  obtain ⟨o, ho, hc⟩ := hrow B e'.symm
  rw [show X.heap[B]? = _ from hv] at ho
  cases ho
  cases hc
theorem KpB.set {box : Nat} {t : TypeId} {W : World} {v : Value} (hv : Boxed W box t v) (k : IntKind) (x : Int) : KpB box W (W.setCell ⟨box, 0, none⟩ (.int k x)) := by
  refine ⟨by simp, fun u g hu hg => ?_, fun i o hi ho hb hn => ?_⟩
  · rw [(hv.set (.int k x)).cell] at hu
    obtain rfl := Option.some.inj hu
    simp [Value.ownBlock] at hg
  · rw [heap_setCell_other _ _ _ _ hb]; exact hi
def LvRel (W : World) (AB b : Nat) (at' : Int) (zs : List Int) (i : Value) (w : World) : Prop :=
  ∃ (k : Nat) (v : Value), k ≤ zs.length ∧ i = .int .i64 k ∧ RAt w b b v (zs.take k) ∧ Below AB W w ∧ Boxed w AB 5 (.int .u8 at') ∧ AB < b
set_option maxHeartbeats 8000000 in
set_option maxRecDepth 100000 in
theorem ringLeaves_walk (W : World) (a0 : Option Addr) (c0 : Nat) (zs : List Int) (s0 : SlI W a0 zs) (g0 : ∀ y ∈ zs, IntOk .i64 y) (m0 : zs.length ≤ maxLen) (at' : Int) (w1 : (Lit.int .u8 at').wf = true) :
    Calls Try.prog 6 #[.slice a0 zs.length c0, .int .u8 at'] W fun e W' => e = .returned (.bool true) ∧ Below W.heap.size W W' := by
  obtain ⟨ha1, ha2⟩ := u8_bounds w1
  have S0 := Lib.hid s0
  unfold maxLen at m0
  have HAW := Lib.hid awake_ok
  clear s0 g0 w1
  refine (callsIn_wide (n := 6)).1 ?_
  refine callsIn_of_wp_marks Try.func6 rfl trivial ?_ rfl
  simp only [Try.ntmps6, List.size_toArray, List.length_cons, List.length_nil, Nat.reduceAdd, Nat.reduceSub, Array.replicate_succ, Array.replicate_zero, List.push_toArray, List.append_toArray, List.nil_append, List.cons_append]
  gi_wp2_with fail
  refine ⟨trivial, ?_⟩
  refine (callsIn_wide.2 (HAW.out _)).mono ?_
  rintro e wa ⟨rfl, hb⟩
  have bA := (Boxed.new W 5 (.int .u8 at'))
  have AB0 := Lib.hid (((Below.refl W.heap.size W).alloc (Nat.le_refl _) (.cells #[.int .u8 at'] 5)).trans (hb.mono (by simp)))
  have bA1 : Boxed wa W.heap.size 5 (.int .u8 at') := (hb.block W.heap.size (by simp)).trans bA
  have BA1 := Lib.hid bA1
  have ABl := bA1.lt
  clear hb bA bA1
  generalize hAB : W.heap.size = AB at *
  have HAB := Lib.hid hAB
  have hab1 : W.heap.size ≤ AB := by omega
  have hab2 : AB ≤ W.heap.size := by omega
  clear hAB
  by_cases hbig : (64 : Int) < (zs.length : Int)
  · gi_wp2_with fail
    refine ⟨trivial, ?_⟩
    refine (callsIn_wide.2 (HAW.out _)).mono ?_
    rintro e wb ⟨rfl, hb⟩
    have BX := Lib.hid (AB0.out.trans (hb.mono (Nat.le_trans hab2 AB0.out.size)))
    gi_wp2_with fail
    rw [← HAB.out] at BX
    exact ⟨_, results_tmp rfl _ _ _, rfl, BX.out⟩
  · have NR := Lib.hid (newI_ok 64 wa.heap.size wa (by decide) (by decide))
    gi_wp2_with fail
    refine ⟨trivial, ?_⟩
    refine (callsIn_wide.2 NR.out).mono ?_
    rintro e wb ⟨rfl, hR, hb, hz⟩
    have L0 : Hid (LvRel W AB wa.heap.size at' zs (.int .i64 ((0 : Nat) : Int)) wb) := ⟨0, _, Nat.zero_le _, rfl, by simpa using hR, AB0.out.trans (hb.mono (Nat.le_trans hab2 AB0.out.size)), (hb.block AB ABl).trans BA1.out, ABl⟩
    clear hR hb hz
    generalize wa.heap.size = B0 at *
    gi_wp2_with fail
    gi_loopw [28] (fun i w => LvRel W AB B0 at' zs i w) (fun i _ => zs.length - (intOf i).toNat)
    case atStart => exact L0.out
    case round =>
      obtain ⟨k, v, hk, rfl, hR, hb, hbx, hABb⟩ := hrel
      have RR := Lib.hid hR; have BW := Lib.hid hb; have BX := Lib.hid hbx
      clear hR hb hbx L0
      have hsz := BW.out.size
      by_cases hlt : k < zs.length
      · obtain ⟨z, ez, okz, cz⟩ := (S0.out.below (by rw [HAB.out]; exact BW.out)).get (k := k) hlt
        have hle := RR.out.hb.lt
        have htl : (zs.take k).length = k := by rw [List.length_take]; omega
        have PU := Lib.hid (putI_ok wr B0 B0 64 v (zs.take k) z RR.out (by rw [htl]; omega) (by omega) (by omega))
        have TK : Hid (zs.take k ++ [z] = zs.take (k + 1)) := by show _ = _; rw [List.take_add_one, ez.out]; rfl
        rw [TK.out] at PU
        clear htl
        gi_wp2_with fail
        refine ⟨trivial, ?_⟩
        refine (callsIn_wide.2 PU.out).mono ?_
        rintro e w2 ⟨v', rfl, hR2, hU, hv⟩
        have hns : ∀ g, ringS B0 v g → B0 ≤ g := fun g hg => by
          rcases hg with rfl | hg
          · exact Nat.le_refl _
          · exact (own_lt RR.out.own hg).2
        have N2 : Hid (LvRel W AB B0 at' zs (.int .i64 ((k + 1 : Nat) : Int)) w2) := ⟨k + 1, v', by omega, rfl, hR2, ring_below BW.out RR.out hU (by omega) (by omega) (by omega), (hU.block AB BX.out.lt (fun h => by have := hns _ h; omega)).trans BX.out, hABb⟩
        clear hR2 hU hv hns
        gi_wp2_with fail
        go_roundw
        case rel => have := N2.out; simpa using this
        case measure => simp [intOf]; omega
      · obtain rfl : k = zs.length := by omega
        rw [List.take_length] at RR
        gi_wp2_with fail
        refine ⟨trivial, ?_⟩
        refine (all_in _ _ _).mono ?_
        rintro e w' ⟨rfl, rfl⟩
        gi_wp2_with fail
        have bS := ((Boxed.new wr 3 (.int .i64 0)).alloc (.cells #[.pointer (some ⟨B0, 0, none⟩)] 46) : Boxed _ wr.heap.size _ _)
        have bP := Boxed.new (wr.alloc (.cells #[.int .i64 0] 3)) 46 (.pointer (some ⟨B0, 0, none⟩))
        rw [World.size_alloc] at bP
        have q2 : Below wr.heap.size wr ((wr.alloc (.cells #[.int .i64 0] 3)).alloc (.cells #[.pointer (some ⟨B0, 0, none⟩)] 46)) := ((Below.refl _ wr).alloc (Nat.le_refl _) _).alloc (by simp) _
        have R2 := RR.out.below q2
        have bA := (q2.block AB BX.out.lt).trans BX.out
        have B2 := BW.out.trans (q2.mono (by omega))
        have hs2 : ((wr.alloc (.cells #[.int .i64 0] 3)).alloc (.cells #[.pointer (some ⟨B0, 0, none⟩)] 46)).heap.size = wr.heap.size + 2 := by simp
        have hABlt := BX.out.lt
        generalize (wr.alloc (.cells #[.int .i64 0] 3)).alloc (.cells #[.pointer (some ⟨B0, 0, none⟩)] 46) = W2 at *
        have hs3 : wr.heap.size + 2 ≤ W2.heap.size := by omega
        have HS2 := Lib.hid hs2
        clear hs2 q2
        have HVG : Hid (∀ g, v.ownBlock = some g → g < wr.heap.size) := fun g hg => (own_lt RR.out.own hg).1
        have hB0l := RR.out.hb.lt
        generalize hSB : wr.heap.size = SB at *
        have HSB := Lib.hid hSB
        have hsb1 : AB < SB := hABlt
        clear hSB
        refine wpIn_rangeFunc_ownG rfl (by omega) (gf := 44) (lb := #[.pointer (some ⟨SB + 1, 0, none⟩)]) rfl trivial (enters_of Try.func44 (by kernel_rfl) rfl)
          (all_stops 5 (by omega) (SB + 1) SB B0 B0 64 v zs W2 R2 bP.cell (by omega) (by omega) (fun u hu => by rw [bS.cell] at hu; obtain rfl := Option.some.inj hu; rfl)) KpB.trans (KpB.putObj (by omega)) (Below.refl _ _) (fun _ => rfl)
          (fun (pre : List (Nat × Int)) (X : World) => ((Boxed X SB 3 (.int .i64 (pre.length : Int)) ∧ Boxed X AB 5 (.int .u8 at')) ∧ RAt X B0 B0 v zs ∧ (pre.length : Int) ≤ at') ∧ Below AB W X)
          (fun (c : Code) (pre : List (Nat × Int)) (X : World) => ((c = .exit 2 ∧ ∃ (ini : List (Nat × Int)) (last : Nat × Int), pre = ini ++ [last] ∧ (ini.length : Int) = at') ∧ (Boxed X SB 3 (.int .i64 at') ∧ Boxed X AB 5 (.int .u8 at')) ∧ RAt X B0 B0 v zs) ∧ Below AB W X)
          (OwnFrom.and (OwnFrom.and (OwnFrom.and (Own.from (boxed_own' SB 3 (fun pre => .int .i64 (pre.length : Int))) _) (Own.from (boxed_own' AB 5 (fun _ => .int .u8 at')) _)) (OwnFrom.and (Own.from (ring_own _ _ _ _) _) (fun _ _ _ _ hs _ _ => hs))) (ownFrom_below hab2 (by omega)))
          (fun c => OwnFrom.and (OwnFrom.and (fun _ _ _ _ hs _ _ => hs) (OwnFrom.and (OwnFrom.and (Own.from (boxed_own' SB 3 (fun _ => .int .i64 at')) _) (Own.from (boxed_own' AB 5 (fun _ => .int .u8 at')) _)) (Own.from (ring_own _ _ _ _) _))) (ownFrom_below hab2 (by omega)))
          ⟨⟨⟨bS, bA⟩, R2, ha1⟩, B2⟩ _ (fun l x X K hK => wpIn_skip (Q := Exit.then K (fun _ _ _ => False)) hK) ?body ?done ?stop
        case body =>
          rintro l pre ⟨xi, xz⟩ X ⟨⟨⟨hS, hA⟩, hR, hle⟩, hB⟩ hlt
          have hc1 := hS.cell; have hf1 := hS.frozen; have hc2 := hA.cell
          by_cases hx : (pre.length : Int) = at'
          · have hd : ((pre.length : Int) == at') = true := by simpa using hx
            have HX := Lib.hid hx
            clear hx
            gi_wp2
            exact ⟨KeepsFrom.refl _ _, ⟨⟨rfl, pre, (xi, xz), rfl, HX.out⟩, ⟨by rw [← HX.out]; exact hS, hA⟩, hR⟩, hB⟩
          · have hd : ((pre.length : Int) == at') = false := by simpa using hx
            have hlt2 : (pre.length : Int) < at' := by omega
            have SS := Lib.hid (hS.set (.int .i64 ((pre.length : Int) + 1)))
            have AA : Hid (Boxed (X.setCell ⟨SB, 0, none⟩ (.int .i64 ((pre.length : Int) + 1))) AB 5 (.int .u8 at')) := hA.kept (grownBy_setCell' X SB _) (by simp; omega)
            have RN : Hid (RAt (X.setCell ⟨SB, 0, none⟩ (.int .i64 ((pre.length : Int) + 1))) B0 B0 v zs) := hR.upd (S := fun k => k = SB) ((Upd.refl _ _).setCell _ _ (fun _ => rfl)) (by omega) (fun g hg => by have := HVG.out g hg; omega)
            have KP := Lib.hid (KpB.set hS .i64 ((pre.length : Int) + 1))
            have BN := Lib.hid (hB.setCell (p := ⟨SB, 0, none⟩) (show AB ≤ SB by omega) (.int .i64 ((pre.length : Int) + 1)))
            clear hx hS hA hR hB
            gi_wp2
            exact ⟨(KeepsOthers.setCell _ _ _).from _, KP.out, ⟨⟨by simpa using SS.out, AA.out⟩, RN.out, by simp; omega⟩, BN.out⟩
        case done =>
          rintro D ys X hD rfl ⟨⟨⟨hS, hA⟩, hR, hle⟩, hB⟩ hK
          rw [prs_len] at hS hle
          clear hs3
          have RX := Lib.hid hR
          have BX := Lib.hid hB
          have hcs := hS.cell
          have hca := hA.cell
          have hsl := hS.lt
          have hal := hA.lt
          have VA := Lib.hid (values_any X B0 B0 64 v zs RX.out (by omega))
          clear hS hA hR hB
          gi_wp2_with fail
          refine ⟨trivial, ?_⟩
          refine (callsIn_wide.2 VA.out).mono ?_
          rintro e w5 ⟨v5, rfl, hrw5, hb5⟩
          obtain ⟨a5, c5, rfl, hrest5⟩ := hrw5
          have S5 : Hid (SlI w5 a5 zs) := Rw.sl (⟨a5, c5, rfl, hrest5⟩ : Rw (Value.int .i64) 3 w5 _ _ zs)
          have hxz : AB ≤ X.heap.size := by omega
          have B5 := Lib.hid (BX.out.trans (hb5.mono hxz))
          have hK5 : w5.heap[D]? = some (.deferred (some [])) := by rw [hb5.block D (lt_of_get hK)]; exact hK
          have hc5 := hb5.cell (p := ⟨SB, 0, none⟩) hsl
          rw [hcs] at hc5
          have hd5 := hb5.cell (p := ⟨AB, 0, none⟩) hal
          rw [hca] at hd5
          have R5 := Lib.hid (RX.out.below hb5)
          have SZ5 : Hid (SlI w5 a0 zs) := S0.out.below (by rw [HAB.out]; exact B5.out)
          have EQ : Hid (Calls Try.prog 31 #[.slice a5 zs.length c5, .slice a0 zs.length c0] w5 fun e w' => e = .returned (.bool true) ∧ Qt w5 w') := (equalInt_any w5 a5 a0 c5 c0 zs zs S5.out SZ5.out (by unfold maxLen; omega)).mono fun e w' h => ⟨by rw [h.1]; simp, h.2⟩
          have FIN : Hid (∀ w6, Qt w5 w6 → w6.heap[D]? = some (.deferred (some [])) ∧ Calls Try.prog 29 #[.pointer (some ⟨B0, 0, none⟩)] w6 (fun e w' => e = .returned (.int .i64 zs.length) ∧ w6 = w') ∧ Below W.heap.size W (w6.putObj D (.deferred none))) := fun w6 q => by
            have h6 : w6.heap[D]? = some (.deferred (some [])) := by rw [q.heap]; exact hK5
            refine ⟨h6, lenI_any w6 B0 B0 64 v zs (R5.out.qt q), ?_⟩
            rw [HAB.out]
            exact (B5.out.trans (q.below _)).trans (belowK_b (w := W) hab2 w6 D _ (.deferred none) (by have := HSB.out; have := HS2.out; omega) h6 rfl rfl)
          have hll : ((zs.length : Int) == (zs.length : Int)) = true := by simp
          clear hrest5 hcs hca VA
          gi_wp2_with fail
          all_goals
            refine ⟨trivial, ?_⟩
            refine (callsIn_wide.2 EQ.out).mono ?_
            rintro e w6 ⟨rfl, q6⟩
            obtain ⟨hK6, hL6, hB6⟩ := FIN.out w6 q6
            have LL := Lib.hid hL6; have BB6 := Lib.hid hB6
            clear hL6 hB6 q6 hK5 hb5 hK
            gi_wp2_with fail
            refine ⟨trivial, ?_⟩
            refine (callsIn_wide.2 LL.out).mono ?_
            rintro e w7 ⟨rfl, rfl⟩
            gi_wp2_with fail
            refine ⟨by simp, .inl ⟨_, _, rfl, run_takeDeferred hK6, ?_⟩⟩
            exact ⟨_, results_tmp rfl _ _ _, rfl, BB6.out⟩
        case stop =>
          rintro D c pre X hD ⟨k, hk, rfl⟩ ⟨⟨⟨rfl, ini, last, e1, e2⟩, ⟨hS, hA⟩, hR⟩, hB⟩ hK
          have hkl : at' < (zs.length : Int) := by
            have := congrArg List.length e1
            rw [prs_len] at this
            simp at this
            omega
          clear e1 e2 hs3
          have RX := Lib.hid hR
          have BX := Lib.hid hB
          have hcs := hS.cell
          have hca := hA.cell
          have hsl := hS.lt
          have hal := hA.lt
          have VA := Lib.hid (values_any X B0 B0 64 v zs RX.out (by omega))
          clear hS hA hR hB
          gi_wp2_with fail
          refine ⟨trivial, ?_⟩
          refine (callsIn_wide.2 VA.out).mono ?_
          rintro e w5 ⟨v5, rfl, hrw5, hb5⟩
          obtain ⟨a5, c5, rfl, hrest5⟩ := hrw5
          have S5 : Hid (SlI w5 a5 zs) := Rw.sl (⟨a5, c5, rfl, hrest5⟩ : Rw (Value.int .i64) 3 w5 _ _ zs)
          have hxz : AB ≤ X.heap.size := by omega
          have B5 := Lib.hid (BX.out.trans (hb5.mono hxz))
          have hK5 : w5.heap[D]? = some (.deferred (some [])) := by rw [hb5.block D (lt_of_get hK)]; exact hK
          have hc5 := hb5.cell (p := ⟨SB, 0, none⟩) hsl
          rw [hcs] at hc5
          have hd5 := hb5.cell (p := ⟨AB, 0, none⟩) hal
          rw [hca] at hd5
          have R5 := Lib.hid (RX.out.below hb5)
          have SZ5 : Hid (SlI w5 a0 zs) := S0.out.below (by rw [HAB.out]; exact B5.out)
          have EQ : Hid (Calls Try.prog 31 #[.slice a5 zs.length c5, .slice a0 zs.length c0] w5 fun e w' => e = .returned (.bool true) ∧ Qt w5 w') := (equalInt_any w5 a5 a0 c5 c0 zs zs S5.out SZ5.out (by unfold maxLen; omega)).mono fun e w' h => ⟨by rw [h.1]; simp, h.2⟩
          have FIN : Hid (∀ w6, Qt w5 w6 → w6.heap[D]? = some (.deferred (some [])) ∧ Calls Try.prog 29 #[.pointer (some ⟨B0, 0, none⟩)] w6 (fun e w' => e = .returned (.int .i64 zs.length) ∧ w6 = w') ∧ Below W.heap.size W (w6.putObj D (.deferred none))) := fun w6 q => by
            have h6 : w6.heap[D]? = some (.deferred (some [])) := by rw [q.heap]; exact hK5
            refine ⟨h6, lenI_any w6 B0 B0 64 v zs (R5.out.qt q), ?_⟩
            rw [HAB.out]
            exact (B5.out.trans (q.below _)).trans (belowK_b (w := W) hab2 w6 D _ (.deferred none) (by have := HSB.out; have := HS2.out; omega) h6 rfl rfl)
          have hll : ((zs.length : Int) == (zs.length : Int)) = true := by simp
          clear hrest5 hcs hca VA
          gi_wp2_with fail
          all_goals
            refine ⟨trivial, ?_⟩
            refine (callsIn_wide.2 EQ.out).mono ?_
            rintro e w6 ⟨rfl, q6⟩
            obtain ⟨hK6, hL6, hB6⟩ := FIN.out w6 q6
            have LL := Lib.hid hL6; have BB6 := Lib.hid hB6
            clear hL6 hB6 q6 hK5 hb5 hK
            gi_wp2_with fail
            refine ⟨trivial, ?_⟩
            refine (callsIn_wide.2 LL.out).mono ?_
            rintro e w7 ⟨rfl, rfl⟩
            gi_wp2_with fail
            refine ⟨by simp, .inl ⟨_, _, rfl, run_takeDeferred hK6, ?_⟩⟩
            exact ⟨_, results_tmp rfl _ _ _, rfl, BB6.out⟩
end Go.Proofs.Ytdfncgfcggpgdaa
