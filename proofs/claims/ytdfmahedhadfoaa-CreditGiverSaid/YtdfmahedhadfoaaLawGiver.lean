/-
  The walk of the law CreditGiver.
-/
import Derived.Test.YtdfmahedhadfoaaLawGiverM
namespace Go.Proofs.Ytdfmahedhadfoaa
open Go.RowKit
set_option linter.unusedVariables false

theorem Try.infoRG : (Try.prog.info? 32).map (fun i => (i.zero, i.size, i.bytes)) = some (some (.agg #[.int .i64 0, .int .i64 0, .int .i64 0]), 3, 24) := by kernel_rfl

def mcs (zs : List Int) (k : Nat) : List Value := cs3 ((zs.take k).map newG)
theorem mcs_succ {zs : List Int} {k : Nat} {z : Int} (h : zs[k]? = some z) : mcs zs k ++ [.int .i64 z, .int .i64 0, .int .i64 0] = mcs zs (k + 1) := by
  unfold mcs
  rw [List.take_add_one, h, List.map_append, cs3_append]
  rfl
theorem mcs_all {zs : List Int} {k : Nat} (h : zs.length = k) : mcs zs k = cs3 (zs.map newG) := by
  unfold mcs
  rw [List.take_of_length_le (by omega)]
/-- The first loop: the reference's givers. -/
def MRel (W : World) (Bm : Nat) (zs : List Int) (B g cb : Nat) (v i : Value) (w : World) : Prop :=
  ∃ k : Nat, k ≤ zs.length ∧ i = .int .i64 k ∧ w.ownsRow Bm 32 3 v k (mcs zs k) ∧ GAt w B g cb (zs.map newG) ∧ Below W.heap.size W w ∧ Bm ≤ w.heap.size
def GvRel (W : World) (B g cb mg n : Nat) (sp : List Value) (len : Nat) (i : Value) (w : World) : Prop :=
  ∃ k : Nat, k ≤ len ∧ i = .int .i64 k ∧ ∃ l, GvMem W B g cb mg n sp (64 * k) l w

def InRel (W : World) (B g cb mg n : Nat) (sp : List Value) (K : Int) (l : List I3) (bx : Nat) (xa xb xc : Int) (i : Value) (w : World) : Prop :=
  ∃ j : Nat, j ≤ n ∧ i = .int .i64 j ∧ GvX W B g cb mg n sp K l bx xa xb xc w

set_option maxHeartbeats 20000000 in
set_option maxRecDepth 100000 in
theorem creditGiver_walk (W : World) (a0 : Option Addr) (c0 : Nat) (zs : List Int) (s0 : SlI W a0 zs) (g0 : ∀ y ∈ zs, IntOk .i64 y) (m0 : zs.length ≤ maxLen)
    (a1 : Option Addr) (c1 : Nat) (l : List I3) (s1 : Sl3 W a1 l) (g1 : ∀ x ∈ l, IntOk .i64 (I3.a x) ∧ IntOk .i64 x.b ∧ IntOk .i64 x.c) (m1 : l.length ≤ maxLen) :
    Calls Try.prog 3 #[.slice a0 zs.length c0, .slice a1 l.length c1] W fun e W' => e = .returned (.bool true) ∧ Below W.heap.size W W' := by
  have HAW := Lib.hid (awake_ok W)
  have S0 := Lib.hid s0; have S1 := Lib.hid s1; have M0 := Lib.hid m0
  clear s0 s1 g0 g1
  unfold maxLen at m0 m1
  by_cases h40 : (40 : Int) < (l.length : Int)
  · go_enter Try.func3, Try.ntmps3
    go_wp2_with fail
    refine HAW.out.mono ?_
    rintro e w1 ⟨rfl, hb⟩
    have B1 := Lib.hid hb; clear hb
    go_wp2_with fail
    go_ret
    exact ⟨rfl, B1.out⟩
  go_enter Try.func3, Try.ntmps3
  go_wp2_with fail
  refine HAW.out.mono ?_
  rintro e w1 ⟨rfl, hb⟩
  have B1 := Lib.hid hb; clear hb
  have RM := Lib.hid (rooms_any w1 a0 c0 zs (S0.out.below B1.out) M0.out)
  go_wp2_with fail
  refine RM.out.mono ?_
  rintro e w2 ⟨⟨hok, rfl⟩ | ⟨hno, rfl⟩, rfl⟩
  rotate_left
  · go_wp2_with fail
    go_ret
    exact ⟨rfl, B1.out⟩
  have HOK := Lib.hid hok; clear hok
  have NG := Lib.hid (newG_any w1 a0 c0 zs (S0.out.below B1.out) M0.out)
  go_wp2_with fail
  refine NG.out.mono ?_
  rintro e w2 (⟨_, rfl, hG, hB, hz⟩ | ⟨h, _⟩)
  rotate_left
  · exact absurd HOK.out h
  have G2 := Lib.hid hG
  have B2 := Lib.hid (B1.out.trans (hB.mono B1.out.size))
  have hBW := B1.out.size
  have hz2 : w2.heap.size = w1.heap.size + 2 := hz
  clear hG hB hz
  have hn1 := HOK.out.h1
  have hn4 := HOK.out.h4
  generalize hB' : w1.heap.size = B at *
  have HB' := Lib.hid hB'; have HZ2 := Lib.hid hz2
  clear hB' hz2
  generalize hn : zs.length = n at *
  have HN := Lib.hid hn; clear hn
  obtain ⟨i0, hi, hz0, hz1, hz2⟩ := info_parts Try.infoRG
  have HI := Lib.hid hi; have HZ0 := Lib.hid hz0; have HZ1 := Lib.hid hz1; have HZ2' := Lib.hid hz2
  clear hi hz0 hz1 hz2
  go_wp2_with fail
  go_loopw [7, 42] (fun v i w => MRel W (B + 2) zs B (B + 1) B v i w) (fun _ i _ => n - (intOf i).toNat)
  case atStart => exact ⟨0, Nat.zero_le _, rfl, ⟨by simp [mcs, cs3], .inl ⟨rfl, rfl⟩⟩, G2.out, B2.out, by have := HZ2.out; omega⟩
  case round =>
    obtain ⟨k, hk, rfl, hown, hG, hB, hbm⟩ := hrel
    have OWN := Lib.hid hown; have HG := Lib.hid hG; have HB := Lib.hid hB
    have hk' : k ≤ n := by rw [HN.out] at hk; exact hk
    clear hown hG hB hk
    by_cases hlt : k < n
    · obtain ⟨z, ez, okz, cz⟩ := (S0.out.below HB.out).get (k := k) (by rw [HN.out]; exact hlt)
      obtain ⟨al, cl, rfl, _⟩ := own_shape OWN.out
      go_wp2_with (at_builtin; refine wpList_append_own _ rfl _ _ 30 rfl (B + 2) 32 i0 _ 3 24 Try.underlying30 HI.out HZ0.out HZ1.out HZ2'.out rfl (by decide) _ k (mcs zs k) rfl ?c0 ⟨wr.heap.size, 0, none⟩ 1 1 [.int .i64 z, .int .i64 0, .int .i64 0] rfl ?c1 ?c2 ?c3 ?c4 ?c5 ?c6 ?_)
      case c0 => exact OWN.out.alloc _
      case c1 => rfl
      case c2 =>
        intro j u hj
        have hbn := Blk.new wr 32 [.int .i64 z, .int .i64 0, .int .i64 0]
        rw [add_eq _ _ rfl]
        have := hbn.cell hj
        simpa using this
      case c3 => intro u hu; simp at hu; rcases hu with rfl | rfl | rfl <;> rfl
      case c4 => unfold maxLen; omega
      case c5 => omega
      case c6 => simp; omega
      intro v' w3 hown' hgr hnil
      have U : Upd (fun j => (Value.slice al k cl).ownBlock = some j) wr w3 :=
        Upd.then (S := fun j => (Value.slice al k cl).ownBlock = some j) ((Upd.refl _ wr).alloc _) (T := fun j => (Value.slice al k cl).ownBlock = some j) ⟨hgr.os, hgr.tape, hgr.output, hgr.size, fun j hj hs => hgr.block j hj (fun e => hs e.symm)⟩ (fun j _ hj => hj)
      have hbo : ∀ j, (Value.slice al k cl).ownBlock = some j → B + 2 ≤ j := fun j hj => (own_lt OWN.out hj).2
      have G3 := Lib.hid (HG.out.upd U (fun h => by have := hbo _ h; omega) (fun h => by have := hbo _ h; omega))
      have B3 := Lib.hid (Upd.below HB.out U HB.out.size (fun j hj => by have := hbo j hj; omega))
      have hsz := U.size
      have htk := mcs_succ ez.out
      rw [htk] at hown'
      have OWN3 := Lib.hid hown'
      clear hown' hgr hnil U hbo htk
      go_wp2_with fail
      go_roundw
      case rel => exact ⟨k + 1, by rw [HN.out]; omega, by go_num, OWN3.out, G3.out, B3.out, by omega⟩
      case measure => simp [intOf]; omega
    · obtain rfl : k = n := by omega
      rw [mcs_all HN.out] at OWN
      obtain ⟨mg, sp, cm, hv, hmg, hM, hnn⟩ := own3_blk OWN.out (by intro e; have := congrArg List.length e; simp [HN.out] at this; omega)
      have G0 : Hid (GvMem W B (B + 1) B mg k sp (64 * ((0 : Nat) : Int)) (zs.map newG) wr) :=
        ⟨HG.out, hM, by simp [HN.out], by omega, by omega, hBW, by omega, by
          intro x hx
          obtain ⟨z, hz, rfl⟩ := List.mem_map.1 hx
          obtain ⟨h1, h2⟩ := HOK.out.hz z hz
          exact ⟨⟨h1, h2, by simp [newG], by simp [newG], by simp [newG]; omega, by simp [newG]⟩, by simp [newG]⟩, HB.out⟩
      clear hM OWN HG HB hnn
      subst hv
      have hbm0 := hbm
      clear hbm
      go_wp2_with fail
      go_loopw [54] (fun i w => GvRel W B (B + 1) B mg k sp l.length i w) (fun i _ => l.length - (intOf i).toNat)
      case atStart => exact ⟨0, Nat.zero_le _, rfl, _, G0.out⟩
      case round =>
        obtain ⟨q, hq, rfl, gs, hmem⟩ := hrel
        have HM := Lib.hid hmem; clear hmem G0
        by_cases hlt : q < l.length
        · obtain ⟨x, ex, okx, cx1, cx2, cx3⟩ := (S1.out.below HM.out.bel).get (k := q) hlt
          obtain ⟨xa, xb, xc⟩ := x
          dsimp only at cx1 cx2 cx3
          have XN := Lib.hid (GvX.new HM.out xa xb xc)
          by_cases hout : xb < 0 ∨ (k : Int) ≤ xb
          · as_aux_lemma =>
              have XM := Lib.hid XN.out
              have hout' : xb < 0 ∨ (gs.length : Int) ≤ xb := by rw [HM.out.hl]; exact hout
              have HO := Lib.hid hout'
              have hgl : Hid (gs.length ≤ 1000) := by show _ ≤ _; rw [HM.out.hl]; omega
              have AU := Lib.hid fun w (h : GvX W B (B + 1) B mg k sp (64 * q) gs wr.heap.size xa xb xc w) => aud_out w _ _ _ xb xc _ h.m.hG HO.out hgl.out
              have RE := Lib.hid fun w (h : GvX W B (B + 1) B mg k sp (64 * q) gs wr.heap.size xa xb xc w) => rec_out w _ _ _ xb _ h.m.hG HO.out hgl.out
              have FR := Lib.hid fun w (h : GvX W B (B + 1) B mg k sp (64 * q) gs wr.heap.size xa xb xc w) => fre_out w _ _ _ xb _ h.m.hG HO.out hgl.out
              have LI := Lib.hid fun w (h : GvX W B (B + 1) B mg k sp (64 * q) gs wr.heap.size xa xb xc w) => lim_out w _ _ _ xb _ h.m.hG HO.out hgl.out
              have HE := Lib.hid fun w (h : GvX W B (B + 1) B mg k sp (64 * q) gs wr.heap.size xa xb xc w) => held_out w _ _ _ xb _ h.m.hG HO.out hgl.out
              have hcase : Hid (decide (xb < 0) = true ∨ (decide (xb < 0) = false ∧ decide ((k : Int) ≤ xb) = true)) := by
                show _ ∨ _
                by_cases h : xb < 0
                · left; simpa using h
                · right; exact ⟨by simpa using h, by simp; omega⟩
              clear hout' hout XN HO hgl
              rcases hcase.out with hc1 | ⟨hc1, hc2⟩
              all_goals
                clear hcase
                go_wp2_with fail
                refine (AU.out _ XM.out).mono ?_
                rintro e w3 ⟨rfl, hb⟩
                have X3 := Lib.hid (XM.out.below hb)
                obtain ⟨u0, u1, u2⟩ := X3.out.cells
                clear hb
                go_wp2_with fail
                refine (RE.out _ X3.out).mono ?_
                rintro e w4 ⟨rfl, rfl⟩
                go_wp2_with fail
                refine (FR.out _ X3.out).mono ?_
                rintro e w4 ⟨rfl, rfl⟩
                go_wp2_with fail
                refine (LI.out _ X3.out).mono ?_
                rintro e w4 ⟨rfl, hb⟩
                have X4 := Lib.hid (X3.out.below hb)
                clear hb u0 u1 u2
                obtain ⟨u0, u1, u2⟩ := X4.out.cells
                go_wp2_with fail
                refine (HE.out _ X4.out).mono ?_
                rintro e w5 ⟨rfl, hb⟩
                have X5 := Lib.hid (X4.out.below hb)
                clear hb
                go_wp2_with fail
                go_roundw
                case rel =>
                  exact ⟨q + 1, by omega, by go_num, gs, X5.out.m.wide (by omega)⟩
                case measure => simp [intOf]; omega
          · have hx0 : 0 ≤ xb := by omega
            have hxk : xb < k := by omega
            obtain ⟨c, rfl⟩ := Int.eq_ofNat_of_zero_le hx0
            have hck : c < k := by omega
            have hgl : gs.length ≤ 1000 := by rw [HM.out.hl]; omega
            obtain ⟨x, hx, hok, hxK⟩ := XN.out.m.get hck
            have ST := Lib.hid (show (64 * (q : Int)) ≤ 99900 by omega)
            clear hout
            go_upto_block 4 with (fail)
            generalize wr.alloc (.cells #[.int .i64 xa, .int .i64 c, .int .i64 xc] 34) = wa at *
            generalize wr.heap.size = bx at *
            obtain ⟨ra, rb, rc⟩ := x
            go_cut [14, 15, 16, 17] (fun a b d e w => ∃ (er nn : Int) (gs' : List I3), a = .int .i64 er ∧ b = .int .i64 er ∧ d = .int .i64 nn ∧ e = .int .i64 nn ∧ GvX W B (B + 1) B mg k sp (64 * q + 64) gs' bx xa c xc w)
            case first =>
              obtain ⟨u0, u1, u2⟩ := XN.out.cells
              by_cases h0 : xa = 0
              · as_aux_lemma =>
                  subst h0
                  have P := Lib.hid (rec_ok wa _ _ _ c gs _ XN.out.m.hG hx.out hok hgl)
                  have RC := Lib.hid (rrec_any ⟨ra, rb, rc⟩ · hok)
                  have SP := Lib.hid (stp_rec ⟨ra, rb, rc⟩)
                  generalize recX ⟨ra, rb, rc⟩ = x' at *
                  generalize recE ⟨ra, rb, rc⟩ = er at *
                  obtain ⟨na, nb, nc⟩ := x'
                  go_wp2_with fail
                  refine P.out.mono ?_
                  rintro e w3 ⟨rfl, hG, hU⟩
                  have H3 := Lib.hid (XN.out.half hU hG)
                  clear u0 u1 u2 hG hU
                  have u0 : w3.cell? ⟨bx, 0, none⟩ = some (.int .i64 0) := H3.out.hx.cell rfl
                  have u1 : w3.cell? ⟨bx, 1, none⟩ = some (.int .i64 c) := H3.out.hx.cell rfl
                  have u2 : w3.cell? ⟨bx, 2, none⟩ = some (.int .i64 xc) := H3.out.hx.cell rfl
                  obtain ⟨y0, y1, y2⟩ := blks3 H3.out.hM hx.out
                  have AFT : Hid (∀ w5, Below w3.drew.heap.size w3.drew w5 → GvH W B (B + 1) B mg k sp gs (gs.set c ⟨na, nb, nc⟩) bx 0 c xc w5) := fun w5 hb => H3.out.drew.below hb
                  have b0 : (0 : Int) ≤ (c : Int) := by omega
                  have b1 : (c : Int) < (k : Int) := by omega
                  go_wp2_with fail
                  go_region_law (first | (go_simp; go_at_call 19; refine (RC.out _).mono ?_; rintro e w5 ⟨rfl, hb⟩; have H5 := Lib.hid (AFT.out _ hb); clear u0 u1 u2 y0 y1 y2; have u0 := H5.out.hx.cell (i := 0) rfl; have u1 := H5.out.hx.cell (i := 1) rfl; have u2 := H5.out.hx.cell (i := 2) rfl; have y0 := (blks3 H5.out.hM hx.out).1; have y1 := (blks3 H5.out.hM hx.out).2.1; have y2 := (blks3 H5.out.hM hx.out).2.2; have f0 := H5.out.hM.free (c * 3); have f1 := H5.out.hM.free (c * 3 + 1); have f2 := H5.out.hM.free (c * 3 + 2)))
                  all_goals
                    go_wp2_with fail
                    go_meet
                    have FIN := XN.out.store (x' := ⟨na, nb, nc⟩) hx.out SP.out ST.out H5.out
                    exact ⟨er, 0, _, rfl, rfl, rfl, rfl, FIN⟩
              · have k0 : (xa == 0) = false := by simpa using h0
                by_cases h1 : xa = 1
                · as_aux_lemma =>
                    subst h1
                    have P := Lib.hid (fre_ok wa _ _ _ c gs _ XN.out.m.hG hx.out hok hgl)
                    have RC := Lib.hid (rfre_any ⟨ra, rb, rc⟩ · hok)
                    have SP := Lib.hid (stp_fre ⟨ra, rb, rc⟩)
                    generalize freX ⟨ra, rb, rc⟩ = x' at *
                    generalize freE ⟨ra, rb, rc⟩ = er at *
                    obtain ⟨na, nb, nc⟩ := x'
                    go_wp2_with fail
                    refine P.out.mono ?_
                    rintro e w3 ⟨rfl, hG, hU⟩
                    have H3 := Lib.hid (XN.out.half hU hG)
                    clear u0 u1 u2 hG hU
                    have u0 : w3.cell? ⟨bx, 0, none⟩ = some (.int .i64 1) := H3.out.hx.cell rfl
                    have u1 : w3.cell? ⟨bx, 1, none⟩ = some (.int .i64 c) := H3.out.hx.cell rfl
                    have u2 : w3.cell? ⟨bx, 2, none⟩ = some (.int .i64 xc) := H3.out.hx.cell rfl
                    obtain ⟨y0, y1, y2⟩ := blks3 H3.out.hM hx.out
                    have AFT : Hid (∀ w5, Below w3.drew.heap.size w3.drew w5 → GvH W B (B + 1) B mg k sp gs (gs.set c ⟨na, nb, nc⟩) bx 1 c xc w5) := fun w5 hb => H3.out.drew.below hb
                    have b0 : (0 : Int) ≤ (c : Int) := by omega
                    have b1 : (c : Int) < (k : Int) := by omega
                    go_wp2_with fail
                    go_region_law (first | (go_simp; go_at_call 20; refine (RC.out _).mono ?_; rintro e w5 ⟨rfl, hb⟩; have H5 := Lib.hid (AFT.out _ hb); clear u0 u1 u2 y0 y1 y2; have u0 := H5.out.hx.cell (i := 0) rfl; have u1 := H5.out.hx.cell (i := 1) rfl; have u2 := H5.out.hx.cell (i := 2) rfl; have y0 := (blks3 H5.out.hM hx.out).1; have y1 := (blks3 H5.out.hM hx.out).2.1; have y2 := (blks3 H5.out.hM hx.out).2.2; have f0 := H5.out.hM.free (c * 3); have f1 := H5.out.hM.free (c * 3 + 1); have f2 := H5.out.hM.free (c * 3 + 2)))
                    all_goals
                      go_wp2_with fail
                      go_meet
                      have FIN := XN.out.store (x' := ⟨na, nb, nc⟩) hx.out SP.out ST.out H5.out
                      exact ⟨er, 0, _, rfl, rfl, rfl, rfl, FIN⟩
                · have k1 : (xa == 1) = false := by simpa using h1
                  by_cases h2 : xa = 2
                  · as_aux_lemma =>
                      subst h2
                      have P := Lib.hid (aud_ok wa _ _ _ c xc gs _ XN.out.m.hG hx.out hok hgl)
                      have RC := Lib.hid (raud_any ⟨ra, rb, rc⟩ xc · hok)
                      have SP := Lib.hid (stp_aud ⟨ra, rb, rc⟩ xc)
                      generalize audX ⟨ra, rb, rc⟩ xc = x' at *
                      generalize audE ⟨ra, rb, rc⟩ xc = er at *
                      generalize audN ⟨ra, rb, rc⟩ xc = nn at *
                      obtain ⟨na, nb, nc⟩ := x'
                      go_wp2_with fail
                      refine P.out.mono ?_
                      rintro e w3 ⟨rfl, hG, hU⟩
                      have H3 := Lib.hid (XN.out.half hU hG)
                      clear u0 u1 u2 hG hU
                      have u0 : w3.cell? ⟨bx, 0, none⟩ = some (.int .i64 2) := H3.out.hx.cell rfl
                      have u1 : w3.cell? ⟨bx, 1, none⟩ = some (.int .i64 c) := H3.out.hx.cell rfl
                      have u2 : w3.cell? ⟨bx, 2, none⟩ = some (.int .i64 xc) := H3.out.hx.cell rfl
                      obtain ⟨y0, y1, y2⟩ := blks3 H3.out.hM hx.out
                      have AFT : Hid (∀ w5, Below w3.drew.heap.size w3.drew w5 → GvH W B (B + 1) B mg k sp gs (gs.set c ⟨na, nb, nc⟩) bx 2 c xc w5) := fun w5 hb => H3.out.drew.below hb
                      have b0 : (0 : Int) ≤ (c : Int) := by omega
                      have b1 : (c : Int) < (k : Int) := by omega
                      go_wp2_with fail
                      go_region_law (first | (go_simp; go_at_call 21; refine (RC.out _).mono ?_; rintro e w5 ⟨rfl, hb⟩; have H5 := Lib.hid (AFT.out _ hb); clear u0 u1 u2 y0 y1 y2; have u0 := H5.out.hx.cell (i := 0) rfl; have u1 := H5.out.hx.cell (i := 1) rfl; have u2 := H5.out.hx.cell (i := 2) rfl; have y0 := (blks3 H5.out.hM hx.out).1; have y1 := (blks3 H5.out.hM hx.out).2.1; have y2 := (blks3 H5.out.hM hx.out).2.2; have f0 := H5.out.hM.free (c * 3); have f1 := H5.out.hM.free (c * 3 + 1); have f2 := H5.out.hM.free (c * 3 + 2)))
                      all_goals
                        go_wp2_with fail
                        go_meet
                        have FIN := XN.out.store (x' := ⟨na, nb, nc⟩) hx.out SP.out ST.out H5.out
                        exact ⟨er, nn, _, rfl, rfl, rfl, rfl, FIN⟩
                  · have k2 : (xa == 2) = false := by simpa using h2
                    go_wp2_with fail
                    go_meet
                    exact ⟨0, 0, gs, rfl, rfl, rfl, rfl, XN.out.wide (by omega)⟩
            case rest =>
              as_aux_lemma =>
                obtain ⟨er, nn, gs', rfl, rfl, rfl, rfl, hX⟩ := hcut
                clear hx hok hxK XN HM hgl
                have X1 := Lib.hid hX; clear hX
                have e1 : (er != er) = false := by simp
                have e2 : (nn != nn) = false := by simp
                go_wp2_with fail
                clear e1 e2
                go_loopw [188] (fun i w => InRel W B (B + 1) B mg k sp (64 * q + 64) gs' bx xa c xc i w) (fun i _ => k - (intOf i).toNat)
                case atStart => exact ⟨0, Nat.zero_le _, rfl, X1.out⟩
                case round =>
                  obtain ⟨j, hj, rfl, hX⟩ := hrel
                  by_cases hjk : j < k
                  · obtain ⟨y, hy, hyo, _⟩ := hX.m.get hjk
                    have hgl : gs'.length ≤ 1000 := by rw [hX.m.hl]; omega
                    obtain ⟨ya, yb, yc⟩ := y
                    have LI := Lib.hid fun w (h : GvX W B (B + 1) B mg k sp (64 * q + 64) gs' bx xa c xc w) => lim_x h hy.out hyo hgl
                    have HE := Lib.hid fun w (h : GvX W B (B + 1) B mg k sp (64 * q + 64) gs' bx xa c xc w) => held_x h hy.out hyo hgl
                    have RL := Lib.hid fun w (h : GvX W B (B + 1) B mg k sp (64 * q + 64) gs' bx xa c xc w) => rlim_x h hyo
                    have SS : Hid (∀ w', GvX W B (B + 1) B mg k sp (64 * q + 64) gs' bx xa c xc w' → (w'.cell? ⟨mg, j * 3, none⟩ = some (.int .i64 ya) ∧ w'.cell? ⟨mg, j * 3 + 1, none⟩ = some (.int .i64 yb) ∧ w'.cell? ⟨mg, j * 3 + 2, none⟩ = some (.int .i64 yc) ∧ GvX W B (B + 1) B mg k sp (64 * q + 64) gs' bx xa c xc w')) :=
                      fun w' h => ⟨(blks3 h.m.hM hy.out).1, (blks3 h.m.hM hy.out).2.1, (blks3 h.m.hM hy.out).2.2, h⟩
                    have e1 : ((ya + yc) != (ya + yc)) = false := by simp
                    have e2 : ((yb - yc) != (yb - yc)) = false := by simp
                    have b0 : (0 : Int) ≤ (j : Int) := by omega
                    have b1 : (j : Int) < (k : Int) := by omega
                    have hs0 := hyo.h3
                    have hs1 := hyo.h4
                    have hs2 := hyo.h5
                    have hs3 := hyo.h6
                    have hs4 := hyo.h2
                    dsimp only at hs0 hs1 hs2 hs3 hs4
                    have e3 : IntKind.i64.wrap (yb - yc) = yb - yc := IntWalk.i64_in _ (by omega)
                    go_wp2_with fail
                    go_region_held3 (fun w' => w'.cell? ⟨mg, j * 3, none⟩ = some (.int .i64 ya) ∧ w'.cell? ⟨mg, j * 3 + 1, none⟩ = some (.int .i64 yb) ∧ w'.cell? ⟨mg, j * 3 + 2, none⟩ = some (.int .i64 yc) ∧ GvX W B (B + 1) B mg k sp (64 * q + 64) gs' bx xa c xc w')
                      ((go_split_ands; first | exact SS.out _ (GvX.drew (by assumption)) | exact SS.out _ (by assumption)))
                      (first
                        | (go_at_call 17; go_split_ands; refine (LI.out _ (by assumption)).mono ?_; rintro e w' ⟨rfl, hb⟩)
                        | (go_at_call 22; go_split_ands; refine (RL.out _ (by assumption)).mono ?_; rintro e w' ⟨rfl, hb⟩)
                        | (go_at_call 18; go_split_ands; refine (HE.out _ (by assumption)).mono ?_; rintro e w' ⟨rfl, hb⟩))
                    all_goals
                      clear e3
                      go_wp2_with fail
                      go_roundw
                      case rel => exact ⟨j + 1, by omega, by go_num, by go_split_ands; assumption⟩
                      case measure => simp [intOf]; omega
                  · obtain rfl : j = k := by omega
                    have X2 := Lib.hid hX; clear hX
                    go_wp2_with fail
                    go_roundw
                    case rel => exact ⟨q + 1, by omega, by go_num, gs', X2.out.m.wide (by omega)⟩
                    case measure => simp [intOf]; omega
        · obtain rfl : q = l.length := by omega
          go_wp2_with fail
          go_ret
          exact ⟨rfl, HM.out.bel⟩
end Go.Proofs.Ytdfmahedhadfoaa
