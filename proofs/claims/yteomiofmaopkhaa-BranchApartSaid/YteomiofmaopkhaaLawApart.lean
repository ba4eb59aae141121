/-
  The walk of the law BranchApart.
-/
import Derived.Test.YteomiofmaopkhaaApartM
namespace Go.Proofs.Yteomiofmaopkhaa
open Go.RowKit
set_option linter.unusedVariables false

def QS (wd : World) (A B : Addr) (u v : Value) (w : World) : Prop := wd.cell? A = some u ∧ wd.cell? B = some v ∧ Qt wd w
theorem QS.s {wd : World} {A B : Addr} {u v : Value} {w : World} (h : QS wd A B u v w) : w.cell? A = some u ∧ w.cell? B = some v ∧ QS wd A B u v w := ⟨by rw [h.2.2.cell]; exact h.1, by rw [h.2.2.cell]; exact h.2.1, h⟩
theorem QS.drew {wd : World} {A B : Addr} {u v : Value} {w : World} (h : QS wd A B u v w) : QS wd A B u v w.drew := ⟨h.1, h.2.1, h.2.2.drew⟩
theorem QS.qt {wd : World} {A B : Addr} {u v : Value} {w w' : World} (h : QS wd A B u v w) (q : Qt w w') : QS wd A B u v w' := ⟨h.1, h.2.1, h.2.2.trans q⟩
theorem u8_bounds {n : Int} (h : (Lit.int .u8 n).wf = true) : 0 ≤ n ∧ n ≤ 255 := by simpa [Lit.wf, IntKind.min, IntKind.max, IntKind.signed, IntKind.bits] using h
set_option maxHeartbeats 8000000 in
set_option maxRecDepth 100000 in
theorem branchApart_walk (W : World) (n : Int) (w0 : (Lit.int .i64 n).wf = true) (a1 : Option Addr) (c1 : Nat) (xs : List OpR) (s1 : SlOp W a1 xs) (g1 : ∀ x ∈ xs, OpOk W x) (m1 : xs.length ≤ maxLen) (z : Int) (w2 : (Lit.int .u8 z).wf = true)
    (a3 : Option Addr) (c3 : Nat) (oth : List Bool) (s3 : SlB W a3 oth) (g3 : ∀ y ∈ oth, True) (m3 : oth.length ≤ maxLen) :
    Calls Try.prog 3 #[.int .i64 n, .slice a1 xs.length c1, .int .u8 z, .slice a3 oth.length c3] W fun e W' => e = .returned (.bool true) ∧ Below W.heap.size W W' := by
  have HAW := Lib.hid (awake_ok W)
  have S := Lib.hid s1; have G := Lib.hid g1; have M := Lib.hid m1; have S3 := Lib.hid s3
  obtain ⟨hz1, hz2⟩ := u8_bounds w2
  unfold maxLen at m3
  clear s1 g1 w0 m1 w2 s3 g3
  go_enter Try.func3, Try.ntmps3
  go_wp2_with fail
  refine HAW.out.mono ?_
  rintro e wa ⟨rfl, hb⟩
  have BA := Lib.hid hb; clear hb
  have S1 := Lib.hid (S.out.below BA.out)
  have G1 : Hid (∀ x ∈ xs, OpOk wa x) := fun x hx => (G.out x hx).below BA.out
  have F := Lib.hid (fits_any wa n 64 a1 c1 xs S1.out G1.out M.out)
  go_wp2_with fail
  refine F.out.mono ?_
  rintro e wb ⟨rfl, hb⟩
  have BB := Lib.hid (BA.out.trans (hb.mono BA.out.size))
  have S2 := Lib.hid (S1.out.below hb)
  have G2 : Hid (∀ x ∈ xs, OpOk wb x) := fun x hx => (G1.out x hx).below hb
  have SO := Lib.hid ((S3.out.below BA.out).below hb)
  clear hb
  cases hf : fitsB n 64 xs with
  | false =>
    clear hf
    go_wp2_with fail
    go_ret
    exact ⟨rfl, BB.out⟩
  | true =>
    obtain ⟨h1, h2, h3, h4, h5, h6⟩ := fits_hb hf
    clear hf
    have H12 := Lib.hid h6; clear h6
    obtain ⟨o, rfl⟩ : ∃ o : Nat, n = o := ⟨n.toNat, by omega⟩
    by_cases hl60 : (60 : Int) < (xs.length : Int)
    · go_wp2_with fail
      go_ret
      exact ⟨rfl, BB.out⟩
    by_cases hl100 : (100 : Int) < (oth.length : Int)
    · go_wp2_with fail
      go_ret
      exact ⟨rfl, BB.out⟩
    generalize hlo : oth.length = lo at *
    have HLO := Lib.hid hlo; clear hlo
    have hmk := fun w => make_ops w xs.length (by omega)
    have ho0 : ¬ o = 0 := by omega
    generalize hL : cos (List.replicate xs.length opZ) = L at hmk
    have HL := Lib.hid hL; clear hL
    obtain ⟨k, hk, hke⟩ : ∃ k : Nat, k < o ∧ z % (o : Int) = k := ⟨(z % (o : Int)).toNat, by have := Int.emod_lt_of_pos z (show (0 : Int) < o by omega); have := Int.emod_nonneg z (show (o : Int) ≠ 0 by omega); omega, by have := Int.emod_nonneg z (show (o : Int) ≠ 0 by omega); omega⟩
    have HK := Lib.hid hke; clear hke
    go_wp2_with fail
    rw [HK.out]
    have A0 : Hid (ApRel wb wb.heap.size k xs (.int .i64 0) (.int .i64 ((0 : Nat) : Int)) (wb.alloc (.cells L.toArray 28))) := by
      refine ⟨0, List.replicate xs.length opZ, 0, Nat.zero_le _, rfl, rfl, by omega, by omega, by simp, ?_, fun j x y h => by omega, (Below.refl _ _).alloc (Nat.le_refl _) _, Nat.le_refl _⟩
      rw [HL.out]
      exact Blk.new wb _ L
    clear hmk
    go_loopw [11, 48] (fun nv c w => ApRel wb wb.heap.size k xs nv c w) (fun _ c _ => xs.length - (intOf c).toNat)
    case atStart => exact A0.out
    case round =>
      obtain ⟨i, ms, nv, hi, rfl, rfl, hn0, hn1, hM⟩ := hrel
      have AM := Lib.hid hM
      clear hM A0
      by_cases hlt : i < xs.length
      · obtain ⟨x, ex, okx, q0, q1, q2⟩ := (S2.out.below AM.out.bel).get (k := i) hlt
        obtain ⟨⟨yid, yoa, yoc, youts, yra, yrc, yrdy⟩, ey⟩ : ∃ y, ms[i]? = some y := ⟨_, List.getElem?_eq_getElem (by rw [AM.out.len]; exact hlt)⟩
        obtain ⟨g0, g1, g2⟩ := blkO AM.out.hg ey
        have f0 := AM.out.hg.free (i * 3)
        have f1 := AM.out.hg.free (i * 3 + 1)
        have f2 := AM.out.hg.free (i * 3 + 2)
        obtain ⟨_, l1, _, l2⟩ := G2.out x (List.mem_of_getElem? ex.out)
        unfold maxLen at l1 l2
        obtain ⟨xid, oa, oc, outs, ra, rc, rdy⟩ := x
        dsimp only at q0 q1 q2 g0 g1 g2 l1 l2
        unfold OpR.v1 at g1
        unfold OpR.v2 at g2
        dsimp only at g1 g2
        clear ey
        have hgb := AM.out.gb
        have hgl := AM.out.hg.lt
        have UC : Hid (Upd (apS wb.heap.size wr) wr ((((wr.setCell ⟨wb.heap.size, i * 3, none⟩ (.int .i64 xid)).setCell ⟨wb.heap.size, i * 3 + 1, none⟩ (.slice oa outs.length oc)).setCell ⟨wb.heap.size, i * 3 + 2, none⟩ (.slice ra rdy.length rc)).alloc (.cells #[.int .i64 xid, .slice oa outs.length oc, .slice ra rdy.length rc] 28))) :=
          ((((Upd.refl _ wr).setCell _ _ (fun _ => .inl rfl)).setCell _ _ (fun _ => .inl rfl)).setCell _ _ (fun _ => .inl rfl)).alloc _
        have BG : Hid (Blk ((((wr.setCell ⟨wb.heap.size, i * 3, none⟩ (.int .i64 xid)).setCell ⟨wb.heap.size, i * 3 + 1, none⟩ (.slice oa outs.length oc)).setCell ⟨wb.heap.size, i * 3 + 2, none⟩ (.slice ra rdy.length rc)).alloc (.cells #[.int .i64 xid, .slice oa outs.length oc, .slice ra rdy.length rc] 28)) wb.heap.size 28 (cos (ms.set i ⟨xid, oa, oc, outs, ra, rc, rdy⟩))) := by
          have h1 := (((AM.out.hg.set (i * 3) (.int .i64 xid)).set (i * 3 + 1) (.slice oa outs.length oc)).set (i * 3 + 2) (.slice ra rdy.length rc)).alloc (.cells #[.int .i64 xid, .slice oa outs.length oc, .slice ra rdy.length rc] 28)
          have h2 := cos_set (l := ms) (c := i) (by rw [AM.out.len]; exact hlt) ⟨xid, oa, oc, outs, ra, rc, rdy⟩
          show Blk _ _ _ _
          rw [← h2]
          exact h1
        have OKX : Hid (OpOk wr ⟨xid, oa, oc, outs, ra, rc, rdy⟩) := (G2.out _ (List.mem_of_getElem? ex.out)).below AM.out.bel
        have APX : Hid ((outs ≠ [] → (oa.getD default).block < wb.heap.size) ∧ (rdy ≠ [] → (ra.getD default).block < wb.heap.size)) := ⟨fun h => (G2.out _ (List.mem_of_getElem? ex.out)).1.old h, fun h => (G2.out _ (List.mem_of_getElem? ex.out)).2.2.1.old h⟩
        have APO : Hid (apOk wb.heap.size ⟨xid, oa, oc, outs, ra, rc, rdy⟩) := ⟨fun h => by have := APX.out.1 h; show (oa.getD default).block ≠ _; omega, fun h => by have := APX.out.2 h; show (ra.getD default).block ≠ _; omega⟩
        have KEEP : Hid (ApM wb wb.heap.size k xs (i + 1) (ms.set i ⟨xid, oa, oc, outs, ra, rc, rdy⟩) ((((wr.setCell ⟨wb.heap.size, i * 3, none⟩ (.int .i64 xid)).setCell ⟨wb.heap.size, i * 3 + 1, none⟩ (.slice oa outs.length oc)).setCell ⟨wb.heap.size, i * 3 + 2, none⟩ (.slice ra rdy.length rc)).alloc (.cells #[.int .i64 xid, .slice oa outs.length oc, .slice ra rdy.length rc] 28))) :=
          AM.out.next UC.out ex.out BG.out ⟨rfl, rfl, rfl⟩ (OKX.out.upd UC.out (fun h hs => by have h1 := APX.out.1 h; have h2 := AM.out.bel.size; rcases hs with hs | hs; (dsimp only at hs; omega); (dsimp only at hs; omega)) (fun h hs => by have h1 := APX.out.2 h; have h2 := AM.out.bel.size; rcases hs with hs | hs; (dsimp only at hs; omega); (dsimp only at hs; omega))) APO.out
        generalize hno : outs.length = no at *
        generalize hnr : rdy.length = nr at *
        have HNO := Lib.hid hno; have HNR := Lib.hid hnr
        clear hno hnr
        by_cases hput : 0 < no
        · go_wp2_with fail
          go_roundw
          case rel => exact ⟨i + 1, _, nv, by omega, by go_num, rfl, hn0, by omega, KEEP.out⟩
          case measure => simp [intOf]; omega
        · have hne0 : no = 0 := by omega
          subst hne0
          by_cases hrd : nr = o
          · have hrd' : o = nr := hrd.symm
            clear hrd
            subst hrd'
            have hoo : ((o : Int) != (o : Int)) = false := by simp
            have OKU := Lib.hid (KEEP.out.ok i _ _ (by omega) ex.out (List.getElem?_set_self (by rw [AM.out.len]; exact hlt))).2.1
            have CL := Lib.hid (cloneBool_any _ ra rc rdy OKU.out.2.2.1 (by rw [HNR.out]; omega))
            rw [HNR.out] at CL
            go_wp2_with fail
            refine CL.out.mono ?_
            rintro e w2 ⟨v2, rfl, hrw, hb⟩
            obtain ⟨gr, sp, cr2, rfl, hgr, hblk⟩ := hrw.pos (by intro h; have := HNR.out; rw [h] at this; simp at this; omega)
            rw [HNR.out]
            have U2 : Hid (Upd (apS wb.heap.size wr) wr w2) := Upd.then UC.out (Upd.of_below (S := apS wb.heap.size wr) hb) (fun _ _ h => h)
            have BG2 := Lib.hid (BG.out.upd (S := fun _ => False) (Upd.of_below hb) id)
            have HB2 := Lib.hid hblk
            have HGR : Hid (wr.heap.size ≤ gr) := by
              show _ ≤ _
              simp at hgr
              omega
            clear hb hblk hrw hgr CL f0 f1 f2 g0 g1 g2 q0 q1 q2
            obtain ⟨g0, g1, g2⟩ := blkO BG2.out (List.getElem?_set_self (by rw [AM.out.len]; exact hlt))
            have f2 := BG2.out.free (i * 3 + 2)
            clear g0 g1
            unfold OpR.v2 at g2
            dsimp only at g2
            have U3 := Lib.hid (U2.out.setCell ⟨wb.heap.size, i * 3 + 2, none⟩ (.slice (some ⟨gr, 0, none⟩) o cr2) (fun _ => .inl rfl))
            have hgne : gr ≠ wb.heap.size := by have := HGR.out; omega
            have BG3 : Hid (Blk (w2.setCell ⟨wb.heap.size, i * 3 + 2, none⟩ (.slice (some ⟨gr, 0, none⟩) o cr2)) wb.heap.size 28 (cos (ms.set i ⟨xid, oa, oc, outs, some ⟨gr, 0, none⟩, cr2, rdy⟩))) := by
              have h1 := BG2.out.set (i * 3 + 2) (.slice (some ⟨gr, 0, none⟩) o cr2)
              have h2 := cos_set2 (l := ms.set i ⟨xid, oa, oc, outs, ra, rc, rdy⟩) (List.getElem?_set_self (by rw [AM.out.len]; exact hlt)) (some ⟨gr, 0, none⟩) cr2 rdy
              rw [HNR.out, List.set_set] at h2
              rw [h2] at h1
              exact h1
            have HB3 := Lib.hid (HB2.out.setO (a := ⟨wb.heap.size, i * 3 + 2, none⟩) (.slice (some ⟨gr, 0, none⟩) o cr2) hgne)
            have UF : Hid (∀ w, Upd (apS wb.heap.size wr) wr w → SlB w a3 oth) := fun w u => (SO.out.below AM.out.bel).upd u (fun hne hs => by
              have h1 := SO.out.old hne
              have h2 := AM.out.bel.size
              rcases hs with hs | hs
              · omega
              · omega)
            have FINR : Hid (∀ w rdy', Upd (apS wb.heap.size wr) wr w → rdy'.length = o → rdy'[k]? = rdy[k]? → Blk w gr 4 (rdy'.map Value.bool ++ sp) → Blk w wb.heap.size 28 (cos (ms.set i ⟨xid, oa, oc, outs, some ⟨gr, 0, none⟩, cr2, rdy⟩)) → ApM wb wb.heap.size k xs (i + 1) (ms.set i ⟨xid, oa, oc, outs, some ⟨gr, 0, none⟩, cr2, rdy'⟩) w) := by
              intro w rdy' hu hl hk1 hb1 hb2
              have hil : i < ms.length := by rw [AM.out.len]; exact hlt
              have e : cos (ms.set i ⟨xid, oa, oc, outs, some ⟨gr, 0, none⟩, cr2, rdy⟩) = cos (ms.set i ⟨xid, oa, oc, outs, some ⟨gr, 0, none⟩, cr2, rdy'⟩) := by
                rw [← cos_set hil, ← cos_set hil]
                simp only [OpR.v1, OpR.v2, HNR.out, hl]
              rw [e] at hb2
              refine AM.out.next hu ex.out hb2 ⟨rfl, by rw [hl]; exact HNR.out.symm, hk1⟩ ⟨(OKX.out.upd hu (fun h hs => by have h1 := APX.out.1 h; have h2 := AM.out.bel.size; rcases hs with hs | hs; (dsimp only at hs; omega); (dsimp only at hs; omega)) (fun h hs => by have h1 := APX.out.2 h; have h2 := AM.out.bel.size; rcases hs with hs | hs; (dsimp only at hs; omega); (dsimp only at hs; omega))).1, OKX.out.2.1, hb1.sub, by rw [hl]; unfold maxLen; omega⟩ ⟨APO.out.1, fun _ => hgne⟩
            have CELL : Hid (∀ w, Blk w wb.heap.size 28 (cos (ms.set i ⟨xid, oa, oc, outs, some ⟨gr, 0, none⟩, cr2, rdy⟩)) → w.cell? ⟨wb.heap.size, i * 3 + 2, none⟩ = some (.slice (some ⟨gr, 0, none⟩) o cr2)) := fun w hb => by
              have h1 := (blkO hb (List.getElem?_set_self (by rw [AM.out.len]; exact hlt))).2.2
              rw [h1]
              show some (Value.slice _ rdy.length _) = _
              rw [HNR.out]
            go_wp2_with fail
            generalize w2.setCell ⟨wb.heap.size, i * 3 + 2, none⟩ (.slice (some ⟨gr, 0, none⟩) o cr2) = w3 at *
            generalize cos (ms.set i ⟨xid, oa, oc, outs, some ⟨gr, 0, none⟩, cr2, rdy⟩) = LC at *
            clear f2 g2
            have GW : Hid (∀ w, Upd (apS wb.heap.size wr) wr w → Below wb.heap.size wb w) := fun w u => Upd.below AM.out.bel u AM.out.bel.size (fun b hb => by have := AM.out.bel.size; rcases hb with hb | hb <;> omega)
            obtain ⟨wo, rfl⟩ : ∃ wo : World, wo = wr := ⟨_, rfl⟩
            go_loopw [11, 81] (fun nv c w => AiRel wo wb.heap.size gr k o i ⟨xid, oa, oc, outs, ra, rc, rdy⟩ sp LC nv c w) (fun _ c _ => o - (intOf c).toNat)
            case atStart => exact ⟨0, rdy, nv, Nat.zero_le _, rfl, rfl, hn0, by omega, HNR.out, rfl, HB3.out, BG3.out, U3.out⟩
            case round =>
              clear hn0 hn1 U3 HB3 BG3
              obtain ⟨j, rd, n2, hj, rfl, rfl, hn0, hn1, hrl, hrk, hbr, hbg, hu⟩ := hrel
              have RL := Lib.hid hrl; have RK := Lib.hid hrk; have BR := Lib.hid hbr; have BGi := Lib.hid hbg; have UU := Lib.hid hu
              clear hrl hrk hbr hbg hu
              by_cases hjo : j < o
              · by_cases hjk : j = k
                · have hb1 : ((j : Int) != (k : Int)) = false := by simp [hjk]
                  clear hjk
                  go_wp2_with fail
                  go_roundw
                  case rel => exact ⟨j + 1, rd, n2, by omega, by go_num, rfl, hn0, by omega, RL.out, RK.out, BR.out, BGi.out, UU.out⟩
                  case measure => simp [intOf]; omega
                · have hb1 : ((j : Int) != (k : Int)) = true := by rw [bne_iff_ne]; omega
                  by_cases hlo : 0 < lo
                  · obtain ⟨q, hq1, hq2⟩ : ∃ q : Nat, q < lo ∧ n2 % (lo : Int) = q := ⟨(n2 % (lo : Int)).toNat, by have := Int.emod_lt_of_pos n2 (show (0 : Int) < lo by omega); have := Int.emod_nonneg n2 (show (lo : Int) ≠ 0 by omega); omega, by have := Int.emod_nonneg n2 (show (lo : Int) ≠ 0 by omega); omega⟩
                    obtain ⟨bq, eq, okq, cq⟩ := (UF.out _ UU.out).get (k := q) (by rw [HLO.out]; exact hq1)
                    have gc := CELL.out _ BGi.out
                    obtain ⟨bo, eo⟩ : ∃ bo, rd[j]? = some bo := ⟨_, List.getElem?_eq_getElem (by rw [RL.out]; exact hjo)⟩
                    have rcell : wr.cell? ⟨gr, j, none⟩ = some (.bool bo) := BR.out.cell (by rw [List.getElem?_append_left (by simp; exact get_lt eo), List.getElem?_map, eo]; rfl)
                    have rfree := BR.out.free j
                    have BRn := Lib.hid (BR.out.setL (by rw [RL.out]; exact hjo) bq)
                    have BGn := Lib.hid (BGi.out.setO (a := ⟨gr, j, none⟩) (.bool bq) (fun h => hgne h.symm))
                    have UUn := Lib.hid (UU.out.setCell ⟨gr, j, none⟩ (.bool bq) (fun _ => .inr HGR.out))
                    have RKn : Hid ((rd.set j bq)[k]? = rdy[k]?) := by show _ = _; rw [List.getElem?_set_ne hjk]; exact RK.out
                    have hlo0 : ¬ lo = 0 := by omega
                    have hqI : (0 : Int) ≤ (q : Int) := by omega
                    have hqL : (q : Int) < (lo : Int) := by omega
                    have hjI : (0 : Int) ≤ (j : Int) := by omega
                    have hjL : (j : Int) < (o : Int) := by omega
                    clear eo hjk
                    go_wp2_with fail
                    go_region
                    go_wp2_with fail
                    go_roundw
                    case rel => exact ⟨j + 1, rd.set j bq, n2 + 1, by omega, by go_num, by go_num, by omega, by omega, by rw [List.length_set]; exact RL.out, RKn.out, BRn.out.drew, BGn.out.drew, UUn.out.drew⟩
                    case measure => simp [intOf]; omega
                  · have hlo0 : lo = 0 := by omega
                    subst hlo0
                    go_wp2_with fail
                    go_roundw
                    case rel => exact ⟨j + 1, rd, n2, by omega, by go_num, rfl, hn0, by omega, RL.out, RK.out, BR.out, BGi.out, UU.out⟩
                    case measure => simp [intOf]; omega
              · obtain rfl : j = o := by omega
                have FN := Lib.hid (FINR.out _ rd UU.out RL.out RK.out BR.out BGi.out)
                go_wp2_with fail
                go_roundw
                case rel => exact ⟨i + 1, _, n2, by omega, by go_num, rfl, hn0, by omega, FN.out⟩
                case measure => simp [intOf]; omega
          · have hnb : ((nr : Int) != (o : Int)) = true := by rw [bne_iff_ne]; omega
            clear hput
            go_wp2_with fail
            go_roundw
            case rel => exact ⟨i + 1, _, nv, by omega, by go_num, rfl, hn0, by omega, KEEP.out⟩
            case measure => simp [intOf]; omega
      · obtain ⟨hok, hrr⟩ := AM.out.all (by omega)
        have hml := AM.out.len
        have PI := Lib.hid (runAll_apart_all (o := o) (k := k) (by omega) hk xs ms hml (by omega) hrr)
        have SM := Lib.hid (blkO_sl AM.out.hg)
        have OKM := Lib.hid hok
        have HML := Lib.hid hml
        have hm12 : ∀ y ∈ ms, y.outs.length ≤ 12 ∧ y.rdy.length ≤ 12 := by
          intro y hy
          obtain ⟨j, hj⟩ := List.mem_iff_getElem?.1 hy
          obtain ⟨x, hx⟩ : ∃ x, xs[j]? = some x := ⟨_, List.getElem?_eq_getElem (by rw [← hml]; exact get_lt hj)⟩
          have h1 := hrr j x y hx hj
          have h2 := H12.out x (List.mem_of_getElem? hx)
          rw [h1.outs, h1.len]
          exact h2
        have HM12 := Lib.hid hm12
        have R1 := Lib.hid (run_any wr o 64 a1 c1 xs (S2.out.below AM.out.bel) (fun x hx => (G2.out x hx).below AM.out.bel) (by omega) (by omega) h3 h4 h5 H12.out)
        have ABEL := Lib.hid AM.out.bel
        clear hok hrr hml hm12
        go_wp2_with fail
        refine R1.out.mono ?_
        rintro e wc ⟨b1, ml1, pv1, rfl, hat1, hinv1⟩
        obtain ⟨ap1, cp1, rfl, hran1⟩ := Ran.of hat1
        have RAN1 := Lib.hid hran1
        have INV1 := Lib.hid hinv1
        have R2 := Lib.hid (run_any wc o 64 (some ⟨wb.heap.size, 0, none⟩) xs.length ms (SM.out.below hran1.bel) (fun x hx => (OKM.out x hx).below hran1.bel) (by omega) (by omega) h3 h4 (by rw [HML.out]; exact h5) HM12.out)
        rw [HML.out] at R2
        have hpl1 := hinv1.pk
        clear hat1 hran1 hinv1 R1
        go_wp2_with fail
        refine R2.out.mono ?_
        rintro e wd ⟨b2, ml2, pv2, rfl, hat2, hinv2⟩
        obtain ⟨ap2, cp2, rfl, hran2⟩ := Ran.of hat2
        have RAN2 := Lib.hid hran2
        have RAN3 := Lib.hid (RAN1.out.below hran2.bel)
        have LO1 := Lib.hid INV1.out.lo
        have hlk := INV1.out.lk
        have hpe := PI.out.put
        have hle := PI.out.left
        have hpq : ((((runAll o 64 xs).put.length : Nat) : Int) == (((runAll o 64 ms).put.length : Nat) : Int)) = true := by rw [hpe]; simp
        generalize runAll o 64 xs = st1 at *
        generalize runAll o 64 ms = st2 at *
        obtain ⟨l, hl⟩ : ∃ l, st1.left[k]? = some l := ⟨_, List.getElem?_eq_getElem (by rw [LO1.out]; exact hk)⟩
        obtain ⟨ar1, cr1, m1, sl1⟩ := RAN3.out.left hl
        obtain ⟨ar2, cr2, m2, sl2⟩ := RAN2.out.left (k := k) (l := l) (by rw [← hle]; exact hl)
        have hll : l.length ≤ maxLen := by have := hlk l (List.mem_of_getElem? hl); unfold maxLen; omega
        have EQ : Hid (∀ w, Qt wd w → Calls Try.prog 15 #[.slice ar1 l.length cr1, .slice ar2 l.length cr2] w fun e w' => e = .returned (.bool true) ∧ Qt w w') := fun w q => equalInt_same w ar1 ar2 cr1 cr2 l (sl1.qt q) (sl2.qt q) hll
        have hkI : (0 : Int) ≤ (k : Int) := by omega
        have hkL : (k : Int) < (o : Int) := by omega
        have FB : Hid (Below wb.heap.size wb wd) := (ABEL.out.trans ((RAN1.out.bel).mono ABEL.out.size)).trans ((RAN2.out.bel).mono (by have := ABEL.out.size; have := RAN1.out.bel.size; omega))
        clear hpe hle hlk hl sl1 sl2 hll hat2 hran2 hinv2 R2
        have QS0 : QS wd ⟨ml1, k, none⟩ ⟨ml2, k, none⟩ (.slice ar1 l.length cr1) (.slice ar2 l.length cr2) wd := ⟨m1, m2, Qt.refl _⟩
        go_wp2_with fail
        go_region_held3 (fun w' => w'.cell? ⟨ml1, k, none⟩ = some (.slice ar1 l.length cr1) ∧ w'.cell? ⟨ml2, k, none⟩ = some (.slice ar2 l.length cr2) ∧ QS wd ⟨ml1, k, none⟩ ⟨ml2, k, none⟩ (.slice ar1 l.length cr1) (.slice ar2 l.length cr2) w')
          ((go_split_ands; first | exact (QS.drew (by assumption)).s | exact (QS.qt (by assumption) (by assumption)).s | exact QS.s (by assumption) | go_keep))
          (first | (go_at_call 15; go_split_ands; refine (EQ.out _ (QS.drew (by assumption)).2.2).mono ?_; rintro e w' ⟨rfl, hq⟩))
        rename_i hHeld
        have FQ := Lib.hid hHeld.2.2.2.2
        clear hHeld
        go_wp2_with fail
        go_ret
        exact ⟨rfl, BB.out.trans ((FB.out.trans (FQ.out.below _)).mono BB.out.size)⟩
end Go.Proofs.Yteomiofmaopkhaa
