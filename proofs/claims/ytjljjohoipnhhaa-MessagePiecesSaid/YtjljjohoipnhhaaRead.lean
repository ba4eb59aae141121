/-
  The reference's Read: what a gate does with a whole stream.
-/
import Derived.Test.YtjljjohoipnhhaaGateO
namespace Go.Proofs.Ytjljjohoipnhhaa
open Go.RowKit
set_option linter.unusedVariables false

structure RwsAt (W w : World) (B : Nat) (lv : Value) (rs : List RwB) : Prop where
  vw : Vw RwB.val 22 w B lv rs
  rd : ∀ r ∈ rs, Sl (Value.int .u8) W r.a r.d
def ReadRel (W0 W : World) (S : List Int) (fin : GS) (k : Nat) (lv vl va : Value) (w : World) : Prop :=
  ∃ (rs : List RwB) (last : Int) (m : Nat), vl = .int .i64 last ∧ va = .int .i64 m ∧ m ≤ S.length ∧ S.length - m ≤ k ∧ rs.length ≤ m ∧ -1 ≤ last ∧ last ≤ 16777215 ∧
    RwsAt W0 w W.heap.size lv rs ∧ Below W.heap.size W w ∧ fin = ⟨rs.map RwB.d ++ (gate (S.drop m) last).out, (gate (S.drop m) last).rest, (gate (S.drop m) last).last, (gate (S.drop m) last).bad⟩
def ReadPost (W0 W : World) (fin : GS) (e : Ending) (w' : World) : Prop :=
  ∃ lv rs, e = .returned (.tuple #[lv, .int .i64 fin.last, .int .i64 fin.rest.length, .bool fin.bad]) ∧ RwsAt W0 w' W.heap.size lv rs ∧ rs.map RwB.d = fin.out ∧ Below W.heap.size W w'
theorem read_end {W0 W w : World} {fin : GS} {lv : Value} {rs : List RwB} {last : Int} {r : List Int} {n : Nat} (hl : n = r.length) (hR : RwsAt W0 w W.heap.size lv rs) (hB : Below W.heap.size W w) (hf : fin = ⟨rs.map RwB.d, r, last, false⟩) :
    ReadPost W0 W fin (.returned (.tuple #[lv, .int .i64 last, .int .i64 n, .bool false])) w := by subst hf hl; exact ⟨lv, rs, rfl, hR, rfl, hB⟩
theorem read_bad {W0 W w : World} {fin : GS} {lv : Value} {rs : List RwB} {last : Int} (hR : RwsAt W0 w W.heap.size lv rs) (hB : Below W.heap.size W w) (hf : fin = ⟨rs.map RwB.d, [], last, true⟩) :
    ReadPost W0 W fin (.returned (.tuple #[lv, .int .i64 last, .int .i64 0, .bool true])) w := by subst hf; exact ⟨lv, rs, rfl, hR, rfl, hB⟩
theorem at0_drop (S : List Int) (m i : Nat) : at0 (S.drop m) i = at0 S (m + i) := by unfold at0; rw [List.getElem?_drop]
theorem at0_cell {w : World} {g o : Nat} {S : List Int} (h : Sl (Value.int .u8) w (some ⟨g, o, none⟩) S) {i : Nat} (hi : i < S.length) : w.cell? ⟨g, o + i, none⟩ = some (.int .u8 (at0 S i)) := by
  obtain ⟨_, h2⟩ := h i S[i] (by simp [hi])
  rw [adr_mk] at h2
  rw [h2]
  unfold at0
  simp [hi]

set_option maxHeartbeats 4000000 in
set_option maxRecDepth 100000 in
theorem read_nil (W0 W : World) (a : Option Addr) (c : Nat) (hc : c ≤ maxLen) : Calls Try.prog 22 #[.slice a 0 c] W (ReadPost W0 W (gate [] (-1))) := by
  have R0 : Hid (RwsAt W0 W W.heap.size (.slice none 0 0) []) := ⟨Vw.nil _ _ _ _, fun r hr => by cases hr⟩
  unfold maxLen at hc
  cases a with
  | none =>
    go_enter Try.func22, Try.ntmps22
    go_wp2_with fail
    go_loopg [6, 7, 8] 1 (fun k lv vl va wr => k = 1 ∧ lv = .slice none 0 0 ∧ vl = .int .i64 (-1) ∧ va = .int .i64 0 ∧ wr = W)
    case atStart => exact ⟨rfl, rfl, rfl, rfl, rfl⟩
    case round =>
      obtain ⟨rfl, rfl, rfl, rfl, rfl⟩ := hrel
      go_wp2_with fail
      exact bodyPost_ret (v := .tuple #[.slice none 0 0, .int .i64 (-1), .int .i64 0, .bool false]) (by simp [results, Try.results22, go_sem]) rfl (read_end (n := 0) rfl R0.out (Below.refl _ _) rfl)
  | some x =>
    go_enter Try.func22, Try.ntmps22
    go_wp2_with fail
    go_loopg [6, 7, 8] 1 (fun k lv vl va wr => k = 1 ∧ lv = .slice none 0 0 ∧ vl = .int .i64 (-1) ∧ va = .int .i64 0 ∧ wr = W)
    case atStart => exact ⟨rfl, rfl, rfl, rfl, rfl⟩
    case round =>
      obtain ⟨rfl, rfl, rfl, rfl, rfl⟩ := hrel
      by_cases h0 : c = 0
      · subst h0
        go_wp2_with fail
        exact bodyPost_ret (v := .tuple #[.slice none 0 0, .int .i64 (-1), .int .i64 0, .bool false]) (by simp [results, Try.results22, go_sem]) rfl (read_end (n := 0) rfl R0.out (Below.refl _ _) rfl)
      · go_wp2_with fail
        exact bodyPost_ret (v := .tuple #[.slice none 0 0, .int .i64 (-1), .int .i64 0, .bool false]) (by simp [results, Try.results22, go_sem]) rfl (read_end (n := 0) rfl R0.out (Below.refl _ _) rfl)

set_option maxHeartbeats 16000000 in
set_option maxRecDepth 100000 in
theorem read_any' (W0 W : World) (hWW : Below W0.heap.size W0 W) (g o c : Nat) (S : List Int) (hS0 : Sl (Value.int .u8) W0 (some ⟨g, o, none⟩) S) (hB : IsB S) (hl : S.length ≤ 1000000) (hc1 : S.length ≤ c) (hc2 : c ≤ maxLen) :
    Calls Try.prog 22 #[.slice (some ⟨g, o, none⟩) S.length c] W (ReadPost W0 W (gate S (-1))) := by
  obtain ⟨fin, hfin⟩ : ∃ fin, gate S (-1) = fin := ⟨_, rfl⟩
  rw [hfin]
  obtain ⟨i1, hi, hz0, hz1, hz2⟩ := info_parts Try.infoSl
  have JI := Lib.hid hi; have JZ0 := Lib.hid hz0; have JZ1 := Lib.hid hz1; have JZ2 := Lib.hid hz2
  have HS := Lib.hid (hS0.below hWW); have HS0 := Lib.hid hS0; have HB := Lib.hid hB; have FIN := Lib.hid hfin
  have R0 : Hid (RwsAt W0 W W.heap.size (.slice none 0 0) []) := ⟨Vw.nil _ _ _ _, fun r hr => by cases hr⟩
  unfold maxLen at hc2
  clear hi hz0 hz1 hz2 hS0 hB hfin hWW
  go_enter Try.func22, Try.ntmps22
  go_wp2_with fail
  go_loopg [6, 7, 8] S.length (fun k lv vl va wr => ReadRel W0 W S fin k lv vl va wr)
  case atStart => exact ⟨[], -1, 0, rfl, rfl, Nat.zero_le _, by omega, Nat.zero_le _, by omega, by omega, R0.out, Below.refl _ _, by rw [← FIN.out]; rfl⟩
  case round =>
    clear R0 FIN
    obtain ⟨rs, last, m, rfl, rfl, hm, hk, hrs, hl0, hl1, hR, hBl, hf⟩ := hrel
    have RR := Lib.hid hR; have BL := Lib.hid hBl; have FN := Lib.hid hf
    clear hR hBl hf
    obtain ⟨la, lc, rfl⟩ := RR.out.vw.shape
    obtain ⟨r, hr⟩ : ∃ r, S.drop m = r := ⟨_, rfl⟩
    rw [hr] at FN
    obtain ⟨L, hL⟩ : ∃ L, S.length - m = L := ⟨_, rfl⟩
    have hrl : r.length = L := by rw [← hr, List.length_drop, hL]
    have hat : ∀ i, at0 r i = at0 S (m + i) := fun i => by rw [← hr, at0_drop]
    have HRR := Lib.hid hr
    have hrb : IsB r := by rw [← hr]; exact fun y hy => HB.out y (List.mem_of_mem_drop hy)
    have RB := Lib.hid hrb; have HRL := Lib.hid hrl; have HAT := Lib.hid hat
    clear hr hrb hrl hat
    have i0 : (0 : Int) ≤ (m : Int) := by omega
    have i1' : (m : Int) ≤ (S.length : Int) := by omega
    have i2 : (S.length : Int) ≤ (c : Int) := by omega
    by_cases hmc : m = c
    · have hL0 : L = 0 := by omega
      have FN2 : Hid (fin = ⟨rs.map RwB.d, r, last, false⟩) := by
        show _ = _
        rw [FN.out, gate_stop (by rw [HRL.out]; omega), List.append_nil]
      have hcm : c = m := hmc.symm
      have hl0' : (L : Int) < 2 := by omega
      clear hmc
      subst hcm
      subst hL0
      go_wp2_with fail
      exact bodyPost_ret (v := .tuple #[.slice la rs.length lc, .int .i64 last, .int .i64 0, .bool false]) (by simp [results, Try.results22, go_sem]) rfl (read_end (n := 0) HRL.out.symm RR.out BL.out FN2.out)
    · have hne : ¬ c = m := by omega
      by_cases h2 : L < 2
      · have h2' : (L : Int) < 2 := by omega
        have FN2 : Hid (fin = ⟨rs.map RwB.d, r, last, false⟩) := by
          show _ = _
          rw [FN.out, gate_stop (by rw [HRL.out]; omega), List.append_nil]
        go_wp2_with fail
        exact bodyPost_ret (v := .tuple #[.slice la rs.length lc, .int .i64 last, .int .i64 L, .bool false]) (by simp [results, Try.results22, go_sem]) rfl (read_end (n := L) HRL.out.symm RR.out BL.out FN2.out)
      · have h2' : (2 : Int) ≤ (L : Int) := by omega
        have h2n : ¬ r.length < 2 := by rw [HRL.out]; exact h2
        have H2N := Lib.hid h2n
        have c0 := at0_cell (HS.out.below BL.out) (i := m) (by omega)
        have c1 := at0_cell (HS.out.below BL.out) (i := m + 1) (by omega)
        rw [← Nat.add_assoc] at c1
        have b0 := HB.out.at0 m
        have b1 := HB.out.at0 (m + 1)
        have hl2 : len2 r = at0 S m * 256 + at0 S (m + 1) := by unfold len2; rw [HAT.out 0, HAT.out 1]; rfl
        generalize hz0 : at0 S m = z0 at *
        generalize hz1 : at0 S (m + 1) = z1 at *
        have HZ0 := Lib.hid hz0; have HZ1 := Lib.hid hz1; have HL2 := Lib.hid hl2
        clear h2n hl2 hz0 hz1
        obtain ⟨b00, b01⟩ := b0
        obtain ⟨b10, b11⟩ := b1
        have x0 : (0 : Int) < (L : Int) := by omega
        have x1 : (1 : Int) < (L : Int) := by omega
        have w0 : IntKind.i64.wrap (z0 * 256) = z0 * 256 := IntWalk.i64_in _ (by omega)
        have w1 : IntKind.i64.wrap (z0 * 256 + z1) = z0 * 256 + z1 := IntWalk.i64_in _ (by omega)
        have hn0 : 0 ≤ z0 * 256 + z1 := by omega
        have hn1 : z0 * 256 + z1 ≤ 65535 := by omega
        go_upto_region 6 with (fail)
        go_quiet (fail)
        have BQ := Lib.hid (BL.out.trans (((Qt.refl wr).drewN nq).below _))
        have RQ : Hid (RwsAt W0 (wr.drewN nq) W.heap.size (.slice la rs.length lc) rs) := ⟨RR.out.vw.below ((Qt.refl wr).drewN nq).bel, RR.out.rd⟩
        clear w0 w1 c0 c1 x0 x1 BL RR
        generalize wr.drewN nq = w4 at *
        generalize z0 * 256 + z1 = N at *
        by_cases hN1 : N < 1 ∨ 1000 < N
        · have FN2 : Hid (fin = ⟨rs.map RwB.d, [], last, true⟩) := by
            show _ = _
            rw [FN.out, gate_bad H2N.out (by
              unfold badB
              rw [HL2.out]
              rcases hN1 with h | h
              · rw [decide_eq_true h]; rfl
              · rw [decide_eq_true h, Bool.or_true]; rfl), List.append_nil]
          have hc : N < 1 ∨ (1 ≤ N ∧ 1000 < N) := by omega
          clear hN1
          rcases hc with hc | ⟨hc0, hc⟩
          all_goals
            go_wp2_with fail
            exact bodyPost_ret (v := .tuple #[.slice la rs.length lc, .int .i64 last, .int .i64 0, .bool true]) (by simp [results, Try.results22, go_sem]) rfl (read_bad RQ.out BQ.out FN2.out)
        · have hc0 : 1 ≤ N := by omega
          have hc1 : N ≤ 1000 := by omega
          clear hN1
          by_cases h5 : L < 5
          · have h5' : (L : Int) < 5 := by omega
            have FN2 : Hid (fin = ⟨rs.map RwB.d, r, last, false⟩) := by
              show _ = _
              have e1 : badB r last = false := by
                unfold badB numOf
                rw [HL2.out, if_neg (by rw [HRL.out]; omega), decide_eq_false (by omega : ¬ N < 1), decide_eq_false (by omega : ¬ (1000 : Int) < N), decide_eq_false (by omega : ¬ last + 1 ≤ last)]
                rfl
              have e2 : shortB r = true := by
                unfold shortB
                rw [HL2.out, HRL.out]
                exact decide_eq_true (by omega)
              rw [FN.out, gate_short H2N.out e1 e2, List.append_nil]
            go_wp2_with fail
            exact bodyPost_ret (v := .tuple #[.slice la rs.length lc, .int .i64 last, .int .i64 L, .bool false]) (by simp [results, Try.results22, go_sem]) rfl (read_end (n := L) HRL.out.symm RQ.out BQ.out FN2.out)
          · have h5' : (5 : Int) ≤ (L : Int) := by omega
            have c2 := at0_cell (HS.out.below BQ.out) (i := m + 2) (by omega)
            have c3 := at0_cell (HS.out.below BQ.out) (i := m + 3) (by omega)
            have c4 := at0_cell (HS.out.below BQ.out) (i := m + 4) (by omega)
            rw [← Nat.add_assoc] at c2 c3 c4
            have b2 := HB.out.at0 (m + 2)
            have b3 := HB.out.at0 (m + 3)
            have b4 := HB.out.at0 (m + 4)
            have hl3 : num3 r = at0 S (m + 2) * 65536 + at0 S (m + 3) * 256 + at0 S (m + 4) := by unfold num3; rw [HAT.out 2, HAT.out 3, HAT.out 4]; omega
            generalize at0 S (m + 2) = z2 at *
            generalize at0 S (m + 3) = z3 at *
            generalize at0 S (m + 4) = z4 at *
            have HL3 := Lib.hid hl3
            clear hl3
            obtain ⟨b20, b21⟩ := b2
            obtain ⟨b30, b31⟩ := b3
            obtain ⟨b40, b41⟩ := b4
            have x2 : (2 : Int) < (L : Int) := by omega
            have x3 : (3 : Int) < (L : Int) := by omega
            have x4 : (4 : Int) < (L : Int) := by omega
            have w2 : IntKind.i64.wrap (z2 * 65536) = z2 * 65536 := IntWalk.i64_in _ (by omega)
            have w3 : IntKind.i64.wrap (z3 * 256) = z3 * 256 := IntWalk.i64_in _ (by omega)
            have w5 : IntKind.i64.wrap (z2 * 65536 + z3 * 256) = z2 * 65536 + z3 * 256 := IntWalk.i64_in _ (by omega)
            have w6 : IntKind.i64.wrap (z2 * 65536 + z3 * 256 + z4) = z2 * 65536 + z3 * 256 + z4 := IntWalk.i64_in _ (by omega)
            have hm0 : 0 ≤ z2 * 65536 + z3 * 256 + z4 := by omega
            have hm1 : z2 * 65536 + z3 * 256 + z4 ≤ 16777215 := by omega
            go_upto_region 11 with (fail)
            go_quiet (fail)
            have BQ2 := Lib.hid (BQ.out.trans (((Qt.refl w4).drewN nq).below _))
            have RQ2 : Hid (RwsAt W0 (w4.drewN nq) W.heap.size (.slice la rs.length lc) rs) := ⟨RQ.out.vw.below ((Qt.refl w4).drewN nq).bel, RQ.out.rd⟩
            clear w2 w3 w5 w6 c2 c3 c4 x2 x3 x4 BQ RQ
            generalize w4.drewN nq = w5 at *
            generalize z2 * 65536 + z3 * 256 + z4 = M at *
            by_cases hM : M ≤ last
            · have FN2 : Hid (fin = ⟨rs.map RwB.d, [], last, true⟩) := by
                show _ = _
                rw [FN.out, gate_bad H2N.out (by
                  unfold badB numOf
                  rw [HL2.out, HL3.out, if_pos (by rw [HRL.out]; omega), decide_eq_true hM, Bool.or_true]), List.append_nil]
              go_wp2_with fail
              exact bodyPost_ret (v := .tuple #[.slice la rs.length lc, .int .i64 last, .int .i64 0, .bool true]) (by simp [results, Try.results22, go_sem]) rfl (read_bad RQ2.out BQ2.out FN2.out)
            · have hM' : last < M := by omega
              have e1 : badB r last = false := by
                unfold badB numOf
                rw [HL2.out, HL3.out, if_pos (by rw [HRL.out]; omega), decide_eq_false (by omega : ¬ N < 1), decide_eq_false (by omega : ¬ (1000 : Int) < N), decide_eq_false hM]
                rfl
              have E1 := Lib.hid e1
              clear e1 hM
              by_cases hsh : (L : Int) < 5 + N
              · have FN2 : Hid (fin = ⟨rs.map RwB.d, r, last, false⟩) := by
                  show _ = _
                  have e2 : shortB r = true := by
                    unfold shortB
                    rw [HL2.out, HRL.out]
                    exact decide_eq_true hsh
                  rw [FN.out, gate_short H2N.out E1.out e2, List.append_nil]
                go_wp2_with fail
                exact bodyPost_ret (v := .tuple #[.slice la rs.length lc, .int .i64 last, .int .i64 L, .bool false]) (by simp [results, Try.results22, go_sem]) rfl (read_end (n := L) HRL.out.symm RQ2.out BQ2.out FN2.out)
              · have hsh' : 5 + N ≤ (L : Int) := by omega
                obtain ⟨Ln, rfl⟩ : ∃ Ln : Nat, N = (Ln : Int) := ⟨N.toNat, by omega⟩
                obtain ⟨X, hX⟩ : ∃ X, (r.drop 5).take Ln = X := ⟨_, rfl⟩
                have hxl : X.length = Ln := by rw [← hX, List.length_take, List.length_drop, HRL.out]; omega
                have FN3 : Hid (fin = ⟨(rs.map RwB.d ++ [X]) ++ (gate (S.drop (m + 5 + Ln)) M).out, (gate (S.drop (m + 5 + Ln)) M).rest, (gate (S.drop (m + 5 + Ln)) M).last, (gate (S.drop (m + 5 + Ln)) M).bad⟩) := by
                  show _ = _
                  have e2 : shortB r = false := by
                    unfold shortB
                    rw [HL2.out, HRL.out]
                    exact decide_eq_false hsh
                  have e := gate_one H2N.out E1.out e2
                  have ed : r.drop (5 + Ln) = S.drop (m + 5 + Ln) := by rw [← HRR.out, List.drop_drop, Nat.add_assoc]
                  rw [HL2.out, HL3.out, Int.toNat_natCast, hX, ed] at e
                  rw [FN.out, e, List.append_assoc]
                  rfl
                have SX : Hid (Sl (Value.int .u8) W0 (some ⟨g, o + m + 5, none⟩) X) := by
                  show Sl _ _ _ _
                  intro j x hj
                  rw [← hX, List.getElem?_take] at hj
                  split at hj
                  · rw [List.getElem?_drop, ← HRR.out, List.getElem?_drop] at hj
                    obtain ⟨_, k2⟩ := HS0.out _ x hj
                    refine ⟨rfl, ?_⟩
                    rw [adr_mk] at k2 ⊢
                    rw [← Nat.add_assoc, ← Nat.add_assoc] at k2
                    exact k2
                  · cases hj
                clear hsh hX FN E1 H2N HL2 HL3 HRR HAT RB HZ0 HZ1
                subst hxl
                have e5 : 5 + X.length - 5 = X.length := by omega
                have hlc : (L : Int) ≤ ((c - m : Nat) : Int) := by omega
                have f1 : (5 : Int) + (X.length : Int) ≤ ((c - m : Nat) : Int) := by omega
                have f2 : ¬ 5 = c - m := by omega
                have f3 : ¬ c - m = 5 := by omega
                have HB5 := BQ2.out.size
                have VL : Hid (Vw RwB.val 22 (w5.alloc (.cells #[.slice (some ⟨g, o + m + 5, none⟩) X.length (c - m - 5)] 22)) W.heap.size (.slice la rs.length lc) rs) := RQ2.out.vw.below ((Below.refl _ _).alloc (Nat.le_refl _) _)
                have BA : Hid (Below W.heap.size W (w5.alloc (.cells #[.slice (some ⟨g, o + m + 5, none⟩) X.length (c - m - 5)] 22))) := BQ2.out.trans ((Below.refl _ _).alloc HB5 _)
                go_wp2_with (at_builtin; refine wpList_append_vw rfl _ _ 54 rfl W.heap.size 22 i1 _ 24 Try.underlying54 JI.out JZ0.out JZ1.out JZ2.out rfl RwB.val (fun _ => rfl) (.slice la rs.length lc) rs rfl VL.out (some ⟨w5.heap.size, 0, none⟩) 1 [⟨some ⟨g, o + m + 5, none⟩, c - m - 5, X⟩] rfl (one_genB rfl) ?c1 ?c2 ?c3 ?_)
                case c1 => unfold maxLen; simp only [List.length_singleton]; omega
                case c2 => simp only [List.length_singleton]; omega
                case c3 => simp; omega
                intro v' w7 g1 g2 g3
                have R7 : Hid (RwsAt W0 w7 W.heap.size v' (rs ++ [⟨some ⟨g, o + m + 5, none⟩, c - m - 5, X⟩])) := ⟨g1, fun y hy => by
                  rcases List.mem_append.1 hy with hy | hy
                  · exact RQ2.out.rd y hy
                  · obtain rfl := List.mem_singleton.1 hy
                    exact SX.out⟩
                have B7 : Hid (Below W.heap.size W w7) := Upd.below BA.out g2 (by simp; omega) fun k hk => (VL.out.lt hk).1
                clear g1 g2 g3 VL BA
                go_wp2_with fail
                go_roundg (S.length - (m + 5 + X.length))
                case measure => omega
                case rel => exact ⟨_, M, m + 5 + X.length, rfl, by go_num, by omega, Nat.le_refl _, by simp; omega, by omega, hm1, R7.out, B7.out, by rw [FN3.out]; simp⟩
theorem read_any2 (W0 W : World) (hWW : Below W0.heap.size W0 W) (a : Option Addr) (c : Nat) (S : List Int) (hS : Sl (Value.int .u8) W0 a S) (hB : IsB S) (hl : S.length ≤ 1000000) (hc1 : S.length ≤ c) (hc2 : c ≤ maxLen) :
    Calls Try.prog 22 #[.slice a S.length c] W (ReadPost W0 W (gate S (-1))) := by
  cases S with
  | nil => exact read_nil W0 W a c hc2
  | cons y l =>
    obtain ⟨h0, _⟩ := hS 0 y rfl
    match a, h0 with
    | some ⟨b, o, s⟩, h0 =>
      simp [okAd] at h0
      subst h0
      exact read_any' W0 W hWW b o c (y :: l) hS hB hl hc1 hc2
end Go.Proofs.Ytjljjohoipnhhaa
