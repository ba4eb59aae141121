/-
  The walk of the law CreditClasses.
-/
import Derived.Test.YtdfmahedhadfoaaLawClassesM
import Derived.Test.YtdfmahedhadfoaaOpen3
import Derived.Deep.RegionWith
namespace Go.Proofs.Ytdfmahedhadfoaa
open Go.RowKit
set_option linter.unusedVariables false

theorem u8_bounds {n : Int} (h : (Lit.int .u8 n).wf = true) : 0 ≤ n ∧ n ≤ 255 := by simpa [Lit.wf, IntKind.min, IntKind.max, IntKind.signed, IntKind.bits] using h
theorem i64_bounds {n : Int} (h : (Lit.int .i64 n).wf = true) : -9223372036854775808 ≤ n ∧ n ≤ 9223372036854775807 := by simpa [Lit.wf, IntKind.min, IntKind.max, IntKind.signed, IntKind.bits] using h
/-- Before the givers of one class are made, and when the first one is. -/
structure Cm0 (W : World) (g cb rb ar : Nat) (n0 n1 : Int) (w : World) : Prop where
  hG : GAt w W.heap.size g cb [newG n0, newG n1]
  hr : Blk w rb 3 [.int .i64 n0, .int .i64 n1]
  ha : Blk w ar 46 [.pointer none, .pointer none]
  bel : Below W.heap.size W w
  e1 : ar ≠ cb
  e2 : ar ≠ g
  e3 : ar ≠ rb
  e4 : W.heap.size ≤ ar
structure Cm1 (W : World) (g cb rb ar g0 cb0 : Nat) (n0 n1 : Int) (w : World) : Prop where
  hG : GAt w W.heap.size g cb [newG n0, newG n1]
  h0 : GAt w W.heap.size g0 cb0 [newG n0]
  hr : Blk w rb 3 [.int .i64 n0, .int .i64 n1]
  ha : Blk w ar 46 [.pointer (some ⟨g0, 0, none⟩), .pointer none]
  bel : Below W.heap.size W w
  e1 : ar ≠ cb
  e2 : ar ≠ g
  e3 : ar ≠ rb
  e4 : W.heap.size ≤ ar
  f1 : cb ≠ cb0
  f2 : g0 ≠ cb
  f3 : g ≠ cb0
  f4 : ar ≠ cb0
  f5 : ar ≠ g0
def CmRel (W : World) (g cb rb ar : Nat) (n0 n1 : Int) (i : Value) (w : World) : Prop :=
  (i = .int .i64 0 ∧ Cm0 W g cb rb ar n0 n1 w) ∨ (i = .int .i64 1 ∧ ∃ g0 cb0, Cm1 W g cb rb ar g0 cb0 n0 n1 w) ∨
  (i = .int .i64 2 ∧ ∃ g0 cb0 g1 cb1, ClA g cb g0 cb0 g1 cb1 ar ∧ Cl W g cb g0 cb0 g1 cb1 ar [newG n0, newG n1] (newG n0) (newG n1) w)
def ClRel (W : World) (g cb g0 cb0 g1 cb1 ar len : Nat) (i : Value) (w : World) : Prop :=
  ∃ q : Nat, q ≤ len ∧ i = .int .i64 q ∧ ∃ x0 x1, Cl W g cb g0 cb0 g1 cb1 ar [x0, x1] x0 x1 w ∧ GOk x0 ∧ GOk x1 ∧ x0.c ≤ 64 * q ∧ x1.c ≤ 64 * q
def ClIn (W : World) (g cb g0 cb0 g1 cb1 ar : Nat) (x0 x1 : I3) (i : Value) (w : World) : Prop :=
  (i = .int .i64 0 ∨ i = .int .i64 1 ∨ i = .int .i64 2) ∧ Cl W g cb g0 cb0 g1 cb1 ar [x0, x1] x0 x1 w
theorem rec_keep {x : I3} (h : GOk x) (hK : x.c ≤ 99900) : GOk (recX x) ∧ (recX x).c ≤ x.c + 64 := by
  obtain ⟨h1, h2, h3, h4, h5, h6⟩ := h
  unfold recX
  split
  · exact ⟨⟨h1, h2, h3, h4, h5, h6⟩, by omega⟩
  · exact ⟨⟨h1, h2, h3, by dsimp only; omega, by dsimp only; omega, h6⟩, by dsimp only; omega⟩
theorem fre_keep {x : I3} (h : GOk x) (hK : x.c ≤ 99900) : GOk (freX x) ∧ (freX x).c ≤ x.c + 64 := by
  obtain ⟨h1, h2, h3, h4, h5, h6⟩ := h
  unfold freX
  split
  · exact ⟨⟨h1, h2, h3, h4, h5, h6⟩, by omega⟩
  · exact ⟨⟨h1, h2, by dsimp only; omega, by dsimp only; omega, by dsimp only; omega, by dsimp only; omega⟩, by dsimp only; omega⟩
theorem aud_keep {x : I3} (s : Int) (h : GOk x) (hK : x.c ≤ 99900) : GOk (audX x s) ∧ (audX x s).c ≤ x.c + 64 := by
  obtain ⟨h1, h2, h3, h4, h5, h6⟩ := h
  unfold audX
  split
  · exact ⟨⟨h1, h2, h3, h4, h5, h6⟩, by omega⟩
  · exact ⟨⟨h1, h2, by dsimp only; omega, by dsimp only; omega, by dsimp only; omega, by dsimp only; omega⟩, by dsimp only; omega⟩

set_option maxHeartbeats 20000000 in
set_option maxRecDepth 100000 in
theorem creditClasses_walk (W : World) (ra : Int) (w0 : (Lit.int .u8 ra).wf = true) (rb0 : Int) (w1 : (Lit.int .u8 rb0).wf = true)
    (a1 : Option Addr) (c1 : Nat) (l : List I3) (s1 : Sl3 W a1 l) (g1 : ∀ x ∈ l, IntOk .i64 (I3.a x) ∧ IntOk .i64 x.b ∧ IntOk .i64 x.c) (m1 : l.length ≤ maxLen) :
    Calls Try.prog 5 #[.int .u8 ra, .int .u8 rb0, .slice a1 l.length c1] W fun e W' => e = .returned (.bool true) ∧ Below W.heap.size W W' := by
  have HAW := Lib.hid (awake_ok W)
  have S1 := Lib.hid s1
  have GB := Lib.hid fun x hx => i64_bounds (g1 x hx).2.1
  obtain ⟨p0, p1⟩ := u8_bounds w0
  obtain ⟨p2, p3⟩ := u8_bounds w1
  clear s1 g1 w0 w1
  unfold maxLen at m1
  obtain ⟨n0, hn0⟩ : ∃ n : Nat, 1 + ra % 8 = n := ⟨(1 + ra % 8).toNat, by omega⟩
  obtain ⟨n1, hn1⟩ : ∃ n : Nat, 1 + rb0 % 8 = n := ⟨(1 + rb0 % 8).toNat, by omega⟩
  have q0 : 1 ≤ n0 := by omega
  have q1 : n0 ≤ 8 := by omega
  have q2 : 1 ≤ n1 := by omega
  have q3 : n1 ≤ 8 := by omega
  have HN0 := Lib.hid hn0; have HN1 := Lib.hid hn1
  clear hn0 hn1
  by_cases h40 : (40 : Int) < (l.length : Int)
  · go_enter Try.func5, Try.ntmps5
    go_wp2_with fail
    refine HAW.out.mono ?_
    rintro e w1 ⟨rfl, hb⟩
    have B1 := Lib.hid hb; clear hb
    go_wp2_with fail
    go_ret
    exact ⟨rfl, B1.out⟩
  go_enter Try.func5, Try.ntmps5
  go_wp2_with fail
  refine HAW.out.mono ?_
  rintro e w1 ⟨rfl, hb⟩
  have B1 := Lib.hid hb; clear hb
  have SL : SlI (w1.alloc (.cells #[.int .i64 n0, .int .i64 n1] 3)) (some ⟨w1.heap.size, 0, none⟩) [(n0 : Int), (n1 : Int)] := Blk.sl (f := Value.int .i64) (T := 3) (Blk.new w1 _ [.int .i64 n0, .int .i64 n1])
  have OKR : OkRooms [(n0 : Int), (n1 : Int)] := ⟨by simp, by simp, by intro z hz; simp at hz; rcases hz with rfl | rfl <;> omega⟩
  have NG := Lib.hid (newG_any (w1.alloc (.cells #[.int .i64 n0, .int .i64 n1] 3)) (some ⟨w1.heap.size, 0, none⟩) 2 [(n0 : Int), (n1 : Int)] SL (by unfold maxLen; simp))
  have HOK := Lib.hid OKR
  clear SL OKR
  have hn0 := HN0.out
  have hn1 := HN1.out
  go_wp2_with fail
  clear hn0 hn1
  refine NG.out.mono ?_
  rintro e w2 (⟨_, rfl, hG, hB, hz⟩ | ⟨h, _⟩)
  rotate_left
  · exact absurd HOK.out h
  rw [World.size_alloc] at hG hB hz
  have hW := B1.out.size
  have M0 : Hid (Cm0 W (w1.heap.size + 2) (w1.heap.size + 1) w1.heap.size w2.heap.size n0 n1 (w2.alloc (.cells #[.pointer none, .pointer none] 46))) := by
    have hr : Blk w2 w1.heap.size 3 [.int .i64 n0, .int .i64 n1] := (Blk.new w1 3 [.int .i64 n0, .int .i64 n1]).of_heap (hB.block _ (by omega))
    have hbel : Below W.heap.size W w2 := (B1.out.trans (((Below.refl _ w1).alloc (Nat.le_refl _) _).mono hW)).trans (hB.mono (by omega))
    exact ⟨(hG.base (by omega)).below ((Below.refl _ _).alloc (Nat.le_refl _) _), hr.alloc _, Blk.new w2 _ [.pointer none, .pointer none], hbel.alloc (by omega) _, by omega, by omega, by omega, by omega⟩
  clear hG hB hz NG
  go_wp2_with fail
  generalize w1.heap.size + 2 = g at *
  generalize w1.heap.size + 1 = cb at *
  generalize w1.heap.size = rb at *
  generalize hw2 : w2.alloc (.cells #[.pointer none, .pointer none] 46) = w3 at *
  clear hw2
  generalize w2.heap.size = ar at *
  go_loopw [39] (fun i w => CmRel W g cb rb ar n0 n1 i w) (fun i _ => 2 - (intOf i).toNat)
  case atStart => exact .inl ⟨rfl, M0.out⟩
  case round =>
    clear M0
    rcases hrel with ⟨rfl, hM⟩ | ⟨rfl, g0, cb0, hM⟩ | ⟨rfl, g0, cb0, g1, cb1, hA, hM⟩
    · as_aux_lemma =>
        have HM := Lib.hid hM; clear hM
        have SL : SlI wr (some ⟨rb, 0, none⟩) [(n0 : Int)] := fun j x hj => by
          obtain rfl : j = 0 := by
            rcases Nat.eq_zero_or_pos j with h | h
            · exact h
            · rw [List.getElem?_eq_none (by simp; omega)] at hj; simp at hj
          simp at hj; subst hj
          exact ⟨rfl, by rw [adr_mk]; exact HM.out.hr.cell rfl⟩
        have OK1 : OkRooms [(n0 : Int)] := ⟨by simp, by simp, by intro z hz; simp at hz; subst hz; omega⟩
        have HOK1 := Lib.hid OK1
        have NG := Lib.hid (newG_any wr (some ⟨rb, 0, none⟩) 2 [(n0 : Int)] SL (by unfold maxLen; simp))
        have hac := HM.out.ha.cell (i := 0) rfl
        clear SL OK1
        go_wp2_with fail
        refine NG.out.mono ?_
        rintro e w4 (⟨_, rfl, hG, hB, hz⟩ | ⟨h, _⟩)
        rotate_left
        · exact absurd HOK1.out h
        have hs := HM.out.bel.size
        have l1 := HM.out.hG.hg.lt
        have l2 := HM.out.hG.hc.lt
        have l3 := HM.out.ha.lt
        have HA4 := HM.out.ha.upd (S := fun _ => False) (Upd.of_below hB) id
        have ac := HA4.cell (i := 0) rfl
        have af := HA4.free 0
        have FIN : Hid (Cm1 W g cb rb ar (wr.heap.size + 1) wr.heap.size n0 n1 (w4.setCell ⟨ar, 0, none⟩ (.pointer (some ⟨wr.heap.size + 1, 0, none⟩)))) := by
          have u : Upd (fun k => k = ar) w4 (w4.setCell ⟨ar, 0, none⟩ (.pointer (some ⟨wr.heap.size + 1, 0, none⟩))) := (Upd.refl _ _).setCell _ _ (fun _ => rfl)
          refine ⟨(HM.out.hG.below hB).upd u (Ne.symm HM.out.e2) (Ne.symm HM.out.e1), (hG.base hs).upd u (by omega) (by omega), (HM.out.hr.upd (S := fun _ => False) (Upd.of_below hB) id).upd u (Ne.symm HM.out.e3), by simpa using HA4.set 0 (.pointer (some ⟨wr.heap.size + 1, 0, none⟩)),
            Upd.below (HM.out.bel.trans (hB.mono hs)) u (by have := hB.size; omega) (fun i hi => by have := HM.out.e4; omega), HM.out.e1, HM.out.e2, HM.out.e3, HM.out.e4, by omega, by omega, by omega, by omega, by omega⟩
        clear hG hB hz HA4 hac l1 l2 l3
        go_wp2_with fail
        go_roundw
        case rel => exact .inr (.inl ⟨rfl, _, _, FIN.out⟩)
        case measure => simp [intOf]
    · as_aux_lemma =>
        have HM := Lib.hid hM; clear hM
        have SL : SlI wr (some ⟨rb, 1, none⟩) [(n1 : Int)] := fun j x hj => by
          obtain rfl : j = 0 := by
            rcases Nat.eq_zero_or_pos j with h | h
            · exact h
            · rw [List.getElem?_eq_none (by simp; omega)] at hj; simp at hj
          simp at hj; subst hj
          exact ⟨rfl, by rw [adr_mk]; exact HM.out.hr.cell rfl⟩
        have OK1 : OkRooms [(n1 : Int)] := ⟨by simp, by simp, by intro z hz; simp at hz; subst hz; omega⟩
        have HOK1 := Lib.hid OK1
        have NG := Lib.hid (newG_any wr (some ⟨rb, 1, none⟩) 1 [(n1 : Int)] SL (by unfold maxLen; simp))
        clear SL OK1
        go_wp2_with fail
        refine NG.out.mono ?_
        rintro e w4 (⟨_, rfl, hG, hB, hz⟩ | ⟨h, _⟩)
        rotate_left
        · exact absurd HOK1.out h
        have hs := HM.out.bel.size
        have l1 := HM.out.hG.hg.lt
        have l2 := HM.out.hG.hc.lt
        have l3 := HM.out.ha.lt
        have l4 := HM.out.h0.hg.lt
        have l5 := HM.out.h0.hc.lt
        have HA4 := HM.out.ha.upd (S := fun _ => False) (Upd.of_below hB) id
        have ac := HA4.cell (i := 1) rfl
        have af := HA4.free 1
        have FIN : Hid (ClA g cb g0 cb0 (wr.heap.size + 1) wr.heap.size ar ∧ Cl W g cb g0 cb0 (wr.heap.size + 1) wr.heap.size ar [newG n0, newG n1] (newG n0) (newG n1) (w4.setCell ⟨ar, 1, none⟩ (.pointer (some ⟨wr.heap.size + 1, 0, none⟩)))) := by
          have u : Upd (fun k => k = ar) w4 (w4.setCell ⟨ar, 1, none⟩ (.pointer (some ⟨wr.heap.size + 1, 0, none⟩))) := (Upd.refl _ _).setCell _ _ (fun _ => rfl)
          refine ⟨⟨HM.out.f1, by omega, by omega, HM.out.f2, by omega, HM.out.f3, by omega, by omega, by omega, HM.out.e1, HM.out.f4, by omega⟩, (HM.out.hG.below hB).upd u (Ne.symm HM.out.e2) (Ne.symm HM.out.e1), (HM.out.h0.below hB).upd u (Ne.symm HM.out.f5) (Ne.symm HM.out.f4), (hG.base hs).upd u (by omega) (by omega), by simpa using HA4.set 1 (.pointer (some ⟨wr.heap.size + 1, 0, none⟩)),
            Upd.below (HM.out.bel.trans (hB.mono hs)) u (by have := hB.size; omega) (fun i hi => by have := HM.out.e4; omega)⟩
        clear hG hB hz HA4 l1 l2 l3 l4 l5
        go_wp2_with fail
        go_roundw
        case rel => exact .inr (.inr ⟨rfl, _, _, _, _, FIN.out.1, FIN.out.2⟩)
        case measure => simp [intOf]
    · have HM := Lib.hid hM; have A := Lib.hid hA
      have a0 := hM.ha.cell (i := 0) rfl
      have a1' := hM.ha.cell (i := 1) rfl
      clear hM hA
      go_wp2_with fail
      clear a0 a1'
      go_loopw [72] (fun i w => ClRel W g cb g0 cb0 g1 cb1 ar l.length i w) (fun i _ => l.length - (intOf i).toNat)
      case atStart => exact ⟨0, Nat.zero_le _, rfl, _, _, HM.out, ⟨by simp [newG]; omega, by simp [newG]; omega, by simp [newG], by simp [newG], by simp [newG], by simp [newG]⟩, ⟨by simp [newG]; omega, by simp [newG]; omega, by simp [newG], by simp [newG], by simp [newG], by simp [newG]⟩, by simp [newG], by simp [newG]⟩
      case round =>
        clear HM
        obtain ⟨q, hq, rfl, x0, x1, hM, k0, k1, hc0, hc1⟩ := hrel
        have HM := Lib.hid hM; have K0 := Lib.hid k0; have K1 := Lib.hid k1
        clear hM k0 k1
        by_cases hlt : q < l.length
        · obtain ⟨x, ex, okx, cx1, cx2, cx3⟩ := (S1.out.below HM.out.bel).get (k := q) hlt
          have hbnd := GB.out x (List.mem_of_getElem? ex.out)
          obtain ⟨xa, xb, xc⟩ := x
          dsimp only at cx1 cx2 cx3 hbnd
          have BX : Hid (Blk (wr.alloc (.cells #[.int .i64 xa, .int .i64 xb, .int .i64 xc] 34)) wr.heap.size 34 [.int .i64 xa, .int .i64 xb, .int .i64 xc]) := Blk.new wr _ [.int .i64 xa, .int .i64 xb, .int .i64 xc]
          have HMA := Lib.hid (HM.out.below ((Below.refl _ wr).alloc (Nat.le_refl _) (.cells #[.int .i64 xa, .int .i64 xb, .int .i64 xc] 34)))
          have hgl := HM.out.hG.hc.lt
          have hgl0 := HM.out.h0.hc.lt
          have hgl1 := HM.out.h1.hc.lt
          have hand := and_one xb hbnd.1 hbnd.2
          have HAND := Lib.hid hand
          have LL : Hid ((64 : Int) * q ≤ 99900) := by show _ ≤ _; omega
          clear hand hbnd
          go_upto_block 4 with (fail)
          generalize wr.alloc (.cells #[.int .i64 xa, .int .i64 xb, .int .i64 xc] 34) = wa at *
          generalize wr.heap.size = bx at *
          generalize bits BinOp.and IntKind.i64 xb 1 = cv at *
          go_cut [14] (fun a w => ∃ x0 x1, Cl W g cb g0 cb0 g1 cb1 ar [x0, x1] x0 x1 w ∧ GOk x0 ∧ GOk x1 ∧ x0.c ≤ 64 * q + 64 ∧ x1.c ≤ 64 * q + 64)
          case first =>
            obtain ⟨u0, u1, u2⟩ : wa.cell? ⟨bx, 0, none⟩ = some (.int .i64 xa) ∧ wa.cell? ⟨bx, 1, none⟩ = some (.int .i64 xb) ∧ wa.cell? ⟨bx, 2, none⟩ = some (.int .i64 xc) := ⟨BX.out.cell rfl, BX.out.cell rfl, BX.out.cell rfl⟩
            have nb : bx ≠ cb := by omega
            have NB := Lib.hid nb; clear nb
            rcases HAND.out with rfl | rfl
            · by_cases h0 : xa = 0
              · as_aux_lemma =>
                  subst h0
                  have A0 := Lib.hid A.out
                  have KP := Lib.hid (rec_keep K0.out (Int.le_trans hc0 LL.out))
                  have BOTH := Lib.hid fun w o (h : Cl W g cb g0 cb0 g1 cb1 ar [x0, x1] o x1 w) => clb_rec h A.out 0 x0 rfl K0.out (by simp)
                  have ONE := Lib.hid fun w l (h : Cl W g cb g0 cb0 g1 cb1 ar l x0 x1 w) => cl0_rec h A.out K0.out
                  generalize recX x0 = x' at *
                  generalize recE x0 = er at *
                  have BOTH' : Hid (∀ w o, Cl W g cb g0 cb0 g1 cb1 ar [x0, x1] o x1 w → Calls Try.prog 15 #[.pointer (some ⟨g, 0, none⟩), .int .i64 0] w (ClPost W g cb g0 cb0 g1 cb1 ar [x', x1] o x1 (.int .i64 er))) := BOTH.out
                  clear BOTH
                  have e1 : (er != er) = false := by simp
                  have CD := HMA.out.drew
                  have a0 := HMA.out.ha.cell (i := 0) rfl
                  go_wp2_with fail
                  go_region_law (first | (go_simp; go_at_call 15; refine (BOTH'.out _ _ (by assumption)).mono ?_; rintro e w' ⟨rfl, hc⟩; have a0' := hc.ha.cell (i := 0) rfl) | (go_simp; go_at_call 15; refine (ONE.out _ _ (by assumption)).mono ?_; rintro e w' ⟨rfl, hc⟩; have a0' := hc.ha.cell (i := 0) rfl))
                  all_goals
                    go_wp2_with fail
                    go_meet
                    exact ⟨x', x1, by first | assumption | exact Cl.drew (by assumption), KP.out.1, K1.out, by have := KP.out.2; omega, by omega⟩
              · have k0 : (xa == 0) = false := by simpa using h0
                by_cases h1 : xa = 1
                · as_aux_lemma =>
                    subst h1
                    have A0 := Lib.hid A.out
                    have KP := Lib.hid (fre_keep K0.out (Int.le_trans hc0 LL.out))
                    have BOTH := Lib.hid fun w o (h : Cl W g cb g0 cb0 g1 cb1 ar [x0, x1] o x1 w) => clb_fre h A.out 0 x0 rfl K0.out (by simp)
                    have ONE := Lib.hid fun w l (h : Cl W g cb g0 cb0 g1 cb1 ar l x0 x1 w) => cl0_fre h A.out K0.out
                    generalize freX x0 = x' at *
                    generalize freE x0 = er at *
                    have BOTH' : Hid (∀ w o, Cl W g cb g0 cb0 g1 cb1 ar [x0, x1] o x1 w → Calls Try.prog 16 #[.pointer (some ⟨g, 0, none⟩), .int .i64 0] w (ClPost W g cb g0 cb0 g1 cb1 ar [x', x1] o x1 (.int .i64 er))) := BOTH.out
                    clear BOTH
                    have e1 : (er != er) = false := by simp
                    have CD := HMA.out.drew
                    have a0 := HMA.out.ha.cell (i := 0) rfl
                    go_wp2_with fail
                    go_region_law (first | (go_simp; go_at_call 16; refine (BOTH'.out _ _ (by assumption)).mono ?_; rintro e w' ⟨rfl, hc⟩; have a0' := hc.ha.cell (i := 0) rfl) | (go_simp; go_at_call 16; refine (ONE.out _ _ (by assumption)).mono ?_; rintro e w' ⟨rfl, hc⟩; have a0' := hc.ha.cell (i := 0) rfl))
                    all_goals
                      go_wp2_with fail
                      go_meet
                      exact ⟨x', x1, by first | assumption | exact Cl.drew (by assumption), KP.out.1, K1.out, by have := KP.out.2; omega, by omega⟩
                · have k1 : (xa == 1) = false := by simpa using h1
                  by_cases h2 : xa = 2
                  · as_aux_lemma =>
                      subst h2
                      have KP := Lib.hid (aud_keep xc K0.out (Int.le_trans hc0 LL.out))
                      have BOTH := Lib.hid (clb_aud xc HMA.out A.out 0 x0 rfl K0.out (by simp))
                      have ONE := Lib.hid fun w l (h : Cl W g cb g0 cb0 g1 cb1 ar l x0 x1 w) => cl0_aud xc h A.out K0.out
                      have KK := Lib.hid fun w' (u : Upd (fun k => k = cb) wa w') => BX.out.upd u NB.out
                      have BOTH2 := Lib.hid (aud_ok wa _ g cb 0 xc _ x0 HMA.out.hG rfl K0.out (by simp))
                      have FINB := Lib.hid fun w' (hG : GAt w' W.heap.size g cb ([x0, x1].set 0 (audX x0 xc))) (u : Upd (fun k => k = cb) wa w') => HMA.out.stepB A.out hG u
                      generalize audX x0 xc = x' at *
                      generalize audE x0 xc = er at *
                      generalize audN x0 xc = nn at *
                      have e1 : (er != er) = false := by simp
                      have e2 : (nn != nn) = false := by simp
                      clear BOTH
                      go_wp2_with fail
                      refine BOTH2.out.mono ?_
                      rintro e w4 ⟨rfl, hG, hU⟩
                      have C4 : Cl W g cb g0 cb0 g1 cb1 ar [x', x1] x0 x1 w4 := FINB.out w4 hG hU
                      have CD := C4.drew
                      have BX4 := KK.out w4 hU
                      clear u0 u1 u2 hG hU
                      have u2 := BX4.cell (i := 2) rfl
                      have a0 := C4.ha.cell (i := 0) rfl
                      have HX4 := Lib.hid BX4; clear BX4
                      go_wp2_with fail
                      go_region_law (first | (go_simp; go_at_call 14; refine (ONE.out _ _ (by assumption)).mono ?_; rintro e w' ⟨rfl, hc⟩))
                      all_goals
                        go_wp2_with fail
                        go_meet
                        exact ⟨x', x1, by first | assumption | exact Cl.drew (by assumption), KP.out.1, K1.out, by have := KP.out.2; omega, by omega⟩
                  · have k2 : (xa == 2) = false := by simpa using h2
                    go_wp2_with fail
                    go_meet
                    exact ⟨x0, x1, HMA.out, K0.out, K1.out, by omega, by omega⟩
            · by_cases h0 : xa = 0
              · as_aux_lemma =>
                  subst h0
                  have A0 := Lib.hid A.out
                  have KP := Lib.hid (rec_keep K1.out (Int.le_trans hc1 LL.out))
                  have BOTH := Lib.hid fun w o (h : Cl W g cb g0 cb0 g1 cb1 ar [x0, x1] x0 o w) => clb_rec h A.out 1 x1 rfl K1.out (by simp)
                  have ONE := Lib.hid fun w l (h : Cl W g cb g0 cb0 g1 cb1 ar l x0 x1 w) => cl1_rec h A.out K1.out
                  generalize recX x1 = x' at *
                  generalize recE x1 = er at *
                  have BOTH' : Hid (∀ w o, Cl W g cb g0 cb0 g1 cb1 ar [x0, x1] x0 o w → Calls Try.prog 15 #[.pointer (some ⟨g, 0, none⟩), .int .i64 1] w (ClPost W g cb g0 cb0 g1 cb1 ar [x0, x'] x0 o (.int .i64 er))) := BOTH.out
                  clear BOTH
                  have e1 : (er != er) = false := by simp
                  have CD := HMA.out.drew
                  have a0 := HMA.out.ha.cell (i := 1) rfl
                  go_wp2_with fail
                  go_region_law (first | (go_simp; go_at_call 15; refine (BOTH'.out _ _ (by assumption)).mono ?_; rintro e w' ⟨rfl, hc⟩; have a0' := hc.ha.cell (i := 1) rfl) | (go_simp; go_at_call 15; refine (ONE.out _ _ (by assumption)).mono ?_; rintro e w' ⟨rfl, hc⟩; have a0' := hc.ha.cell (i := 1) rfl))
                  all_goals
                    go_wp2_with fail
                    go_meet
                    exact ⟨x0, x', by first | assumption | exact Cl.drew (by assumption), K0.out, KP.out.1, by omega, by have := KP.out.2; omega⟩
              · have k0 : (xa == 0) = false := by simpa using h0
                by_cases h1 : xa = 1
                · as_aux_lemma =>
                    subst h1
                    have A0 := Lib.hid A.out
                    have KP := Lib.hid (fre_keep K1.out (Int.le_trans hc1 LL.out))
                    have BOTH := Lib.hid fun w o (h : Cl W g cb g0 cb0 g1 cb1 ar [x0, x1] x0 o w) => clb_fre h A.out 1 x1 rfl K1.out (by simp)
                    have ONE := Lib.hid fun w l (h : Cl W g cb g0 cb0 g1 cb1 ar l x0 x1 w) => cl1_fre h A.out K1.out
                    generalize freX x1 = x' at *
                    generalize freE x1 = er at *
                    have BOTH' : Hid (∀ w o, Cl W g cb g0 cb0 g1 cb1 ar [x0, x1] x0 o w → Calls Try.prog 16 #[.pointer (some ⟨g, 0, none⟩), .int .i64 1] w (ClPost W g cb g0 cb0 g1 cb1 ar [x0, x'] x0 o (.int .i64 er))) := BOTH.out
                    clear BOTH
                    have e1 : (er != er) = false := by simp
                    have CD := HMA.out.drew
                    have a0 := HMA.out.ha.cell (i := 1) rfl
                    go_wp2_with fail
                    go_region_law (first | (go_simp; go_at_call 16; refine (BOTH'.out _ _ (by assumption)).mono ?_; rintro e w' ⟨rfl, hc⟩; have a0' := hc.ha.cell (i := 1) rfl) | (go_simp; go_at_call 16; refine (ONE.out _ _ (by assumption)).mono ?_; rintro e w' ⟨rfl, hc⟩; have a0' := hc.ha.cell (i := 1) rfl))
                    all_goals
                      go_wp2_with fail
                      go_meet
                      exact ⟨x0, x', by first | assumption | exact Cl.drew (by assumption), K0.out, KP.out.1, by omega, by have := KP.out.2; omega⟩
                · have k1 : (xa == 1) = false := by simpa using h1
                  by_cases h2 : xa = 2
                  · as_aux_lemma =>
                      subst h2
                      have KP := Lib.hid (aud_keep xc K1.out (Int.le_trans hc1 LL.out))
                      have BOTH := Lib.hid (clb_aud xc HMA.out A.out 1 x1 rfl K1.out (by simp))
                      have ONE := Lib.hid fun w l (h : Cl W g cb g0 cb0 g1 cb1 ar l x0 x1 w) => cl1_aud xc h A.out K1.out
                      have KK := Lib.hid fun w' (u : Upd (fun k => k = cb) wa w') => BX.out.upd u NB.out
                      have BOTH2 := Lib.hid (aud_ok wa _ g cb 1 xc _ x1 HMA.out.hG rfl K1.out (by simp))
                      have FINB := Lib.hid fun w' (hG : GAt w' W.heap.size g cb ([x0, x1].set 1 (audX x1 xc))) (u : Upd (fun k => k = cb) wa w') => HMA.out.stepB A.out hG u
                      generalize audX x1 xc = x' at *
                      generalize audE x1 xc = er at *
                      generalize audN x1 xc = nn at *
                      have e1 : (er != er) = false := by simp
                      have e2 : (nn != nn) = false := by simp
                      clear BOTH
                      go_wp2_with fail
                      refine BOTH2.out.mono ?_
                      rintro e w4 ⟨rfl, hG, hU⟩
                      have C4 : Cl W g cb g0 cb0 g1 cb1 ar [x0, x'] x0 x1 w4 := FINB.out w4 hG hU
                      have CD := C4.drew
                      have BX4 := KK.out w4 hU
                      clear u0 u1 u2 hG hU
                      have u2 := BX4.cell (i := 2) rfl
                      have a0 := C4.ha.cell (i := 1) rfl
                      have HX4 := Lib.hid BX4; clear BX4
                      go_wp2_with fail
                      go_region_law (first | (go_simp; go_at_call 14; refine (ONE.out _ _ (by assumption)).mono ?_; rintro e w' ⟨rfl, hc⟩))
                      all_goals
                        go_wp2_with fail
                        go_meet
                        exact ⟨x0, x', by first | assumption | exact Cl.drew (by assumption), K0.out, KP.out.1, by omega, by have := KP.out.2; omega⟩
                  · have k2 : (xa == 2) = false := by simpa using h2
                    go_wp2_with fail
                    go_meet
                    exact ⟨x0, x1, HMA.out, K0.out, K1.out, by omega, by omega⟩
          case rest =>
            as_aux_lemma =>
              clear HM HMA K0 K1 hc0 hc1 BX
              obtain ⟨x0, x1, hM, k0, k1, hc0, hc1⟩ := hcut
              have HM := Lib.hid hM; have K0 := Lib.hid k0; have K1 := Lib.hid k1
              clear hM k0 k1
              go_wp2_with fail
              go_loopw [128] (fun i w => ClIn W g cb g0 cb0 g1 cb1 ar x0 x1 i w) (fun i _ => 2 - (intOf i).toNat)
              case atStart => exact ⟨.inl rfl, HM.out⟩
              case round =>
                obtain ⟨hi, hM⟩ := hrel
                rcases hi with rfl | rfl | rfl
                · have LI := Lib.hid fun w (h : Cl W g cb g0 cb0 g1 cb1 ar [x0, x1] x0 x1 w) => clb_lim h 0 x0 rfl K0.out (by simp)
                  have HE := Lib.hid fun w (h : Cl W g cb g0 cb0 g1 cb1 ar [x0, x1] x0 x1 w) => clb_held h 0 x0 rfl K0.out (by simp)
                  have LO := Lib.hid fun w (h : Cl W g cb g0 cb0 g1 cb1 ar [x0, x1] x0 x1 w) => cl0_lim h K0.out
                  have HO := Lib.hid fun w (h : Cl W g cb g0 cb0 g1 cb1 ar [x0, x1] x0 x1 w) => cl0_held h K0.out
                  generalize x0.a + x0.c = va at *
                  generalize x0.b - x0.c = vb at *
                  have e1 : (va != va) = false := by simp
                  have e2 : (vb != vb) = false := by simp
                  have SS : Hid (∀ w', Cl W g cb g0 cb0 g1 cb1 ar [x0, x1] x0 x1 w' → (w'.cell? ⟨ar, 0, none⟩ = some (.pointer (some ⟨g0, 0, none⟩)) ∧ Cl W g cb g0 cb0 g1 cb1 ar [x0, x1] x0 x1 w')) := fun w' h => ⟨h.ha.cell rfl, h⟩
                  go_wp2_with fail
                  go_region_held3 (fun w' => w'.cell? ⟨ar, 0, none⟩ = some (.pointer (some ⟨g0, 0, none⟩)) ∧ Cl W g cb g0 cb0 g1 cb1 ar [x0, x1] x0 x1 w')
                    ((go_split_ands; first | exact SS.out _ (Cl.drew (by assumption)) | exact SS.out _ (by assumption)))
                    (first
                      | (go_at_call 17; go_split_ands; refine (LI.out _ (by assumption)).mono ?_; rintro e w' ⟨rfl, hb⟩)
                      | (go_at_call 17; go_split_ands; refine (LO.out _ (by assumption)).mono ?_; rintro e w' ⟨rfl, hb⟩)
                      | (go_at_call 18; go_split_ands; refine (HE.out _ (by assumption)).mono ?_; rintro e w' ⟨rfl, hb⟩)
                      | (go_at_call 18; go_split_ands; refine (HO.out _ (by assumption)).mono ?_; rintro e w' ⟨rfl, hb⟩))
                  all_goals
                    go_wp2_with fail
                    go_roundw
                    case rel => exact ⟨.inr (.inl rfl), by go_split_ands; assumption⟩
                    case measure => simp [intOf]
                · have LI := Lib.hid fun w (h : Cl W g cb g0 cb0 g1 cb1 ar [x0, x1] x0 x1 w) => clb_lim h 1 x1 rfl K1.out (by simp)
                  have HE := Lib.hid fun w (h : Cl W g cb g0 cb0 g1 cb1 ar [x0, x1] x0 x1 w) => clb_held h 1 x1 rfl K1.out (by simp)
                  have LO := Lib.hid fun w (h : Cl W g cb g0 cb0 g1 cb1 ar [x0, x1] x0 x1 w) => cl1_lim h K1.out
                  have HO := Lib.hid fun w (h : Cl W g cb g0 cb0 g1 cb1 ar [x0, x1] x0 x1 w) => cl1_held h K1.out
                  generalize x1.a + x1.c = va at *
                  generalize x1.b - x1.c = vb at *
                  have e1 : (va != va) = false := by simp
                  have e2 : (vb != vb) = false := by simp
                  have SS : Hid (∀ w', Cl W g cb g0 cb0 g1 cb1 ar [x0, x1] x0 x1 w' → (w'.cell? ⟨ar, 1, none⟩ = some (.pointer (some ⟨g1, 0, none⟩)) ∧ Cl W g cb g0 cb0 g1 cb1 ar [x0, x1] x0 x1 w')) := fun w' h => ⟨h.ha.cell rfl, h⟩
                  go_wp2_with fail
                  go_region_held3 (fun w' => w'.cell? ⟨ar, 1, none⟩ = some (.pointer (some ⟨g1, 0, none⟩)) ∧ Cl W g cb g0 cb0 g1 cb1 ar [x0, x1] x0 x1 w')
                    ((go_split_ands; first | exact SS.out _ (Cl.drew (by assumption)) | exact SS.out _ (by assumption)))
                    (first
                      | (go_at_call 17; go_split_ands; refine (LI.out _ (by assumption)).mono ?_; rintro e w' ⟨rfl, hb⟩)
                      | (go_at_call 17; go_split_ands; refine (LO.out _ (by assumption)).mono ?_; rintro e w' ⟨rfl, hb⟩)
                      | (go_at_call 18; go_split_ands; refine (HE.out _ (by assumption)).mono ?_; rintro e w' ⟨rfl, hb⟩)
                      | (go_at_call 18; go_split_ands; refine (HO.out _ (by assumption)).mono ?_; rintro e w' ⟨rfl, hb⟩))
                  all_goals
                    go_wp2_with fail
                    go_roundw
                    case rel => exact ⟨.inr (.inr rfl), by go_split_ands; assumption⟩
                    case measure => simp [intOf]
                · have HM2 := Lib.hid hM; clear hM
                  go_wp2_with fail
                  go_roundw
                  case rel => exact ⟨q + 1, by omega, by go_num, x0, x1, HM2.out, K0.out, K1.out, by omega, by omega⟩
                  case measure => simp [intOf]; omega
        · obtain rfl : q = l.length := by omega
          go_wp2_with fail
          go_ret
          exact ⟨rfl, HM.out.bel⟩
end Go.Proofs.Ytdfmahedhadfoaa
