/-
  The walk of the law CreditTaker.
-/
import Derived.Test.YtdfmahedhadfoaaLawTakerM
import Derived.Test.YtdfmahedhadfoaaOwn
namespace Go.Proofs.Ytdfmahedhadfoaa
open Go.RowKit
set_option linter.unusedVariables false

set_option maxHeartbeats 20000000 in
set_option maxRecDepth 100000 in
theorem creditTaker_walk (W : World) (rm : Int) (w0 : (Lit.int .u8 rm).wf = true)
    (a1 : Option Addr) (c1 : Nat) (l : List I3) (s1 : Sl3 W a1 l) (g1 : ∀ x ∈ l, IntOk .i64 (I3.a x) ∧ IntOk .i64 x.b ∧ IntOk .i64 x.c) (m1 : l.length ≤ maxLen) :
    Calls Try.prog 7 #[.int .u8 rm, .slice a1 l.length c1] W fun e W' => e = .returned (.bool true) ∧ Below W.heap.size W W' := by
  have HAW := Lib.hid (awake_ok W)
  have S1 := Lib.hid s1
  have hrm : 0 ≤ rm ∧ rm ≤ 255 := by simpa [Lit.wf, IntKind.min, IntKind.max, IntKind.signed, IntKind.bits] using w0
  obtain ⟨hr0, hr1⟩ := hrm
  clear s1 g1 w0
  unfold maxLen at m1
  obtain ⟨k, hk⟩ : ∃ k : Nat, 1 + rm % 4 = k := ⟨(1 + rm % 4).toNat, by omega⟩
  have hn1 : 1 ≤ k := by omega
  have hn4 : k ≤ 4 := by omega
  by_cases h40 : (40 : Int) < (l.length : Int)
  · clear hk
    go_enter Try.func7, Try.ntmps7
    go_wp2_with fail
    refine HAW.out.mono ?_
    rintro e w1 ⟨rfl, hb⟩
    have B1 := Lib.hid hb; clear hb
    go_wp2_with fail
    go_ret
    exact ⟨rfl, B1.out⟩
  go_enter Try.func7, Try.ntmps7
  go_wp2_with fail
  refine HAW.out.mono ?_
  rintro e w1 ⟨rfl, hb⟩
  have B1 := Lib.hid hb; clear hb
  have NT := Lib.hid (newT_ok w1 k hn1 hn4)
  go_wp2_with fail
  clear hk
  refine NT.out.mono ?_
  rintro e w2 ⟨rfl, hT, hB, hz⟩
  have hmk := fun w => make_rtak w k (by omega)
  generalize hL : cs2 (List.replicate k ⟨0, 0⟩) = L at hmk
  have M0 : Hid (TkMem W (w1.heap.size + 1) w1.heap.size w2.heap.size k (List.replicate k ⟨0, 0⟩) (w2.alloc (.cells L.toArray 54))) := by
    have hT' := hT.below ((Below.refl _ _).alloc (Nat.le_refl _) (.cells L.toArray 54))
    refine ⟨⟨hT'.hg, hT'.hc, hT'.ne, by have := B1.out.size; omega, B1.out.size⟩, ?_, by simp, by omega, by omega, by have := B1.out.size; omega, ?_, (B1.out.trans (hB.mono B1.out.size)).alloc (by have := B1.out.size; omega) _⟩
    · rw [hL]; exact Blk.new w2 _ L
    · intro x hx
      rw [List.eq_of_mem_replicate hx]
      exact ⟨by decide, by decide, by decide⟩
  have HL := Lib.hid hL; clear hL hT hB hz NT
  go_wp2_with fail
  generalize w2.alloc (.cells L.toArray 54) = w3 at *
  generalize w2.heap.size = mg at *
  generalize w1.heap.size + 1 = g at *
  generalize w1.heap.size = cb at *
  clear hmk
  go_loopw [38] (fun i w => TkRel W g cb mg k l.length i w) (fun i _ => l.length - (intOf i).toNat)
  case atStart => exact ⟨0, Nat.zero_le _, rfl, _, M0.out⟩
  case round =>
    obtain ⟨q, hq, rfl, gs, hmem⟩ := hrel
    have HM := Lib.hid hmem; clear hmem M0
    by_cases hlt : q < l.length
    · obtain ⟨x, ex, okx, cx1, cx2, cx3⟩ := (S1.out.below HM.out.bel).get (k := q) hlt
      obtain ⟨xa, xb, xc⟩ := x
      dsimp only at cx1 cx2 cx3
      have XN := Lib.hid (TkX.new HM.out xa xb xc)
      have hgl : gs.length ≤ 1000 := by rw [HM.out.hl]; omega
      by_cases hout : xb < 0 ∨ (k : Int) ≤ xb
      · as_aux_lemma =>
          have XM := Lib.hid XN.out
          have HO : Hid (xb < 0 ∨ (gs.length : Int) ≤ xb) := by show _ ∨ _; rw [HM.out.hl]; exact hout
          have RA := Lib.hid fun w (h : TkX W g cb mg k gs wr.heap.size xa xb xc w) => rai_out w _ _ _ xb xc _ h.m.hT HO.out hgl
          have TA := Lib.hid fun w (h : TkX W g cb mg k gs wr.heap.size xa xb xc w) => tak_out w _ _ _ xb _ h.m.hT HO.out hgl
          have SE := Lib.hid fun w (h : TkX W g cb mg k gs wr.heap.size xa xb xc w) => sent_out w _ _ _ xb _ h.m.hT HO.out hgl
          have LE := Lib.hid fun w (h : TkX W g cb mg k gs wr.heap.size xa xb xc w) => left_out w _ _ _ xb _ h.m.hT HO.out hgl
          have hcase : Hid (decide (xb < 0) = true ∨ (decide (xb < 0) = false ∧ decide ((k : Int) ≤ xb) = true)) := by
            show _ ∨ _
            by_cases h : xb < 0
            · left; simpa using h
            · right; exact ⟨by simpa using h, by simp; omega⟩
          clear hout XN HO
          rcases hcase.out with hc1 | ⟨hc1, hc2⟩
          all_goals
            clear hcase
            go_wp2_with fail
            refine (RA.out _ XM.out).mono ?_
            rintro e w3 ⟨rfl, hb⟩
            have X3 := Lib.hid (XM.out.below hb)
            obtain ⟨u0, u1, u2⟩ := X3.out.cells
            clear hb
            go_wp2_with fail
            refine (TA.out _ X3.out).mono ?_
            rintro e w4 ⟨rfl, rfl⟩
            go_wp2_with fail
            refine (SE.out _ X3.out).mono ?_
            rintro e w4 ⟨rfl, hb⟩
            have X4 := Lib.hid (X3.out.below hb)
            clear hb u0 u1 u2
            obtain ⟨u0, u1, u2⟩ := X4.out.cells
            go_wp2_with fail
            refine (LE.out _ X4.out).mono ?_
            rintro e w5 ⟨rfl, hb⟩
            have X5 := Lib.hid (X4.out.below hb)
            clear hb
            go_wp2_with fail
            go_roundw
            case rel => exact ⟨q + 1, by omega, by go_num, gs, X5.out.m⟩
            case measure => simp [intOf]; omega
      · have hx0 : 0 ≤ xb := by omega
        have hxk : xb < k := by omega
        obtain ⟨c, rfl⟩ := Int.eq_ofNat_of_zero_le hx0
        have hck : c < k := by omega
        obtain ⟨x, hx, hok⟩ := XN.out.m.get hck
        clear hout
        go_upto_block 2 with (fail)
        generalize wr.alloc (.cells #[.int .i64 xa, .int .i64 c, .int .i64 xc] 34) = wa at *
        generalize wr.heap.size = bx at *
        obtain ⟨ra, rb⟩ := x
        go_cut [11, 12] (fun a b w => ∃ (er : Int) (gs' : List I2), a = .int .i64 er ∧ b = .int .i64 er ∧ TkX W g cb mg k gs' bx xa c xc w)
        case first =>
          obtain ⟨u0, u1, u2⟩ := XN.out.cells
          by_cases h3 : xa = 3
          · as_aux_lemma =>
              subst h3
              have P := Lib.hid (rai_ok wa _ _ _ c xc gs _ XN.out.m.hT hx.out hok hgl)
              have RC := Lib.hid (rrai_any ⟨ra, rb⟩ xc · hok)
              have SP := Lib.hid (stp_rai ⟨ra, rb⟩ xc)
              generalize raiX ⟨ra, rb⟩ xc = x' at *
              generalize raiE ⟨ra, rb⟩ xc = er at *
              obtain ⟨na, nb⟩ := x'
              go_wp2_with fail
              refine P.out.mono ?_
              rintro e w3 ⟨rfl, hG, hU⟩
              have H3 := Lib.hid (XN.out.half hU hG)
              clear u0 u1 u2 hG hU
              have u0 : w3.cell? ⟨bx, 0, none⟩ = some (.int .i64 3) := H3.out.hx.cell rfl
              have u1 : w3.cell? ⟨bx, 1, none⟩ = some (.int .i64 c) := H3.out.hx.cell rfl
              have u2 : w3.cell? ⟨bx, 2, none⟩ = some (.int .i64 xc) := H3.out.hx.cell rfl
              obtain ⟨y0, y1⟩ := blk2 H3.out.hM hx.out
              have AFT : Hid (∀ w5, Below w3.drew.heap.size w3.drew w5 → TkH W g cb mg gs (gs.set c ⟨na, nb⟩) bx 3 c xc w5) := fun w5 hb => H3.out.drew.below hb
              have b0 : (0 : Int) ≤ (c : Int) := by omega
              have b1 : (c : Int) < (k : Int) := by omega
              go_wp2_with fail
              go_region_law (first | (go_simp; go_at_call 28; refine (RC.out _).mono ?_; rintro e w5 ⟨rfl, hb⟩; have H5 := Lib.hid (AFT.out _ hb); clear u0 u1 u2 y0 y1; have u0 := H5.out.hx.cell (i := 0) rfl; have u1 := H5.out.hx.cell (i := 1) rfl; have u2 := H5.out.hx.cell (i := 2) rfl; have y0 := (blk2 H5.out.hM hx.out).1; have y1 := (blk2 H5.out.hM hx.out).2; have f0 := H5.out.hM.free (c * 2); have f1 := H5.out.hM.free (c * 2 + 1)))
              all_goals
                go_wp2_with fail
                go_meet
                have FIN := XN.out.store (x' := ⟨na, nb⟩) hx.out SP.out H5.out
                exact ⟨er, _, rfl, rfl, FIN⟩
          · have k3 : (xa == 3) = false := by simpa using h3
            by_cases h4 : xa = 4
            · as_aux_lemma =>
                subst h4
                have P := Lib.hid (tak_ok wa _ _ _ c gs _ XN.out.m.hT hx.out hok hgl)
                have RC := Lib.hid (rtak_any ⟨ra, rb⟩ · hok)
                have SP := Lib.hid (stp_tak ⟨ra, rb⟩)
                generalize takX ⟨ra, rb⟩ = x' at *
                generalize takE ⟨ra, rb⟩ = er at *
                obtain ⟨na, nb⟩ := x'
                go_wp2_with fail
                refine P.out.mono ?_
                rintro e w3 ⟨rfl, hG, hU⟩
                have H3 := Lib.hid (XN.out.half hU hG)
                clear u0 u1 u2 hG hU
                have u0 : w3.cell? ⟨bx, 0, none⟩ = some (.int .i64 4) := H3.out.hx.cell rfl
                have u1 : w3.cell? ⟨bx, 1, none⟩ = some (.int .i64 c) := H3.out.hx.cell rfl
                have u2 : w3.cell? ⟨bx, 2, none⟩ = some (.int .i64 xc) := H3.out.hx.cell rfl
                obtain ⟨y0, y1⟩ := blk2 H3.out.hM hx.out
                have AFT : Hid (∀ w5, Below w3.drew.heap.size w3.drew w5 → TkH W g cb mg gs (gs.set c ⟨na, nb⟩) bx 4 c xc w5) := fun w5 hb => H3.out.drew.below hb
                have b0 : (0 : Int) ≤ (c : Int) := by omega
                have b1 : (c : Int) < (k : Int) := by omega
                go_wp2_with fail
                go_region_law (first | (go_simp; go_at_call 29; refine (RC.out _).mono ?_; rintro e w5 ⟨rfl, hb⟩; have H5 := Lib.hid (AFT.out _ hb); clear u0 u1 u2 y0 y1; have u0 := H5.out.hx.cell (i := 0) rfl; have u1 := H5.out.hx.cell (i := 1) rfl; have u2 := H5.out.hx.cell (i := 2) rfl; have y0 := (blk2 H5.out.hM hx.out).1; have y1 := (blk2 H5.out.hM hx.out).2; have f0 := H5.out.hM.free (c * 2); have f1 := H5.out.hM.free (c * 2 + 1)))
                all_goals
                  go_wp2_with fail
                  go_meet
                  have FIN := XN.out.store (x' := ⟨na, nb⟩) hx.out SP.out H5.out
                  exact ⟨er, _, rfl, rfl, FIN⟩
            · have k4 : (xa == 4) = false := by simpa using h4
              go_wp2_with fail
              go_meet
              exact ⟨0, gs, rfl, rfl, XN.out⟩
        case rest =>
          as_aux_lemma =>
            obtain ⟨er, gs', rfl, rfl, hX⟩ := hcut
            clear hx hok XN HM hgl
            have X1 := Lib.hid hX; clear hX
            have e1 : (er != er) = false := by simp
            go_wp2_with fail
            clear e1
            go_loopw [127] (fun i w => TkIn W g cb mg k gs' bx xa c xc i w) (fun i _ => k - (intOf i).toNat)
            case atStart => exact ⟨0, Nat.zero_le _, rfl, X1.out⟩
            case round =>
              obtain ⟨j, hj, rfl, hX⟩ := hrel
              by_cases hjk : j < k
              · obtain ⟨y, hy, hyo⟩ := hX.m.get hjk
                have hgl : gs'.length ≤ 1000 := by rw [hX.m.hl]; omega
                obtain ⟨ya, yb⟩ := y
                have SE := Lib.hid fun w (h : TkX W g cb mg k gs' bx xa c xc w) => sent_x h hy.out hyo hgl
                have LE := Lib.hid fun w (h : TkX W g cb mg k gs' bx xa c xc w) => left_x h hy.out hyo hgl
                have SS : Hid (∀ w', TkX W g cb mg k gs' bx xa c xc w' → (w'.cell? ⟨mg, j * 2, none⟩ = some (.int .i64 ya) ∧ w'.cell? ⟨mg, j * 2 + 1, none⟩ = some (.int .i64 yb) ∧ TkX W g cb mg k gs' bx xa c xc w')) :=
                  fun w' h => ⟨(blk2 h.m.hM hy.out).1, (blk2 h.m.hM hy.out).2, h⟩
                have e1 : (ya != ya) = false := by simp
                have e2 : ((yb - ya) != (yb - ya)) = false := by simp
                have b0 : (0 : Int) ≤ (j : Int) := by omega
                have b1 : (j : Int) < (k : Int) := by omega
                have hs1 := hyo.h1
                have hs2 := hyo.h2
                have hs3 := hyo.h3
                dsimp only at hs1 hs2 hs3
                have e3 : IntKind.i64.wrap (yb - ya) = yb - ya := IntWalk.i64_in _ (by omega)
                go_wp2_with fail
                go_region_held3 (fun w' => w'.cell? ⟨mg, j * 2, none⟩ = some (.int .i64 ya) ∧ w'.cell? ⟨mg, j * 2 + 1, none⟩ = some (.int .i64 yb) ∧ TkX W g cb mg k gs' bx xa c xc w')
                  ((go_split_ands; first | exact SS.out _ (TkX.drew (by assumption)) | exact SS.out _ (by assumption)))
                  (first
                    | (go_at_call 26; go_split_ands; refine (SE.out _ (by assumption)).mono ?_; rintro e w' ⟨rfl, hb⟩)
                    | (go_at_call 25; go_split_ands; refine (LE.out _ (by assumption)).mono ?_; rintro e w' ⟨rfl, hb⟩))
                all_goals
                  clear e3
                  go_wp2_with fail
                  go_roundw
                  case rel => exact ⟨j + 1, by omega, by go_num, by go_split_ands; assumption⟩
                  case measure => simp [intOf]; omega
              · obtain rfl : j = k := by omega
                have X2 := Lib.hid hX; clear hX
                go_wp2_with fail
                go_roundw
                case rel => exact ⟨q + 1, by omega, by go_num, gs', X2.out.m⟩
                case measure => simp [intOf]; omega
    · obtain rfl : q = l.length := by omega
      go_wp2_with fail
      go_ret
      exact ⟨rfl, HM.out.bel⟩
end Go.Proofs.Ytdfmahedhadfoaa
