/-
  The walk of the law ArbiterOrder.
-/
import Derived.Test.YthjlknomaoolaaaMoreB
import Derived.Test.YthjlknomaoolaaaAwake
import Derived.Test.YthjlknomaoolaaaPlainB
namespace Go.Proofs.Ythjlknomaoolaaa
open Go.RowKit

set_option maxHeartbeats 2000000 in
set_option maxRecDepth 100000 in
theorem arbiterOrder_walk (W : World) (a0 : Option Addr) (c0 : Nat) (cs : List Int) (s0 : SlI W a0 cs) (_ : ∀ y ∈ cs, IntOk .i64 y) (_ : cs.length ≤ maxLen)
    (a1 : Option Addr) (c1 : Nat) (rs : List Bool) (s1 : SlB W a1 rs) (_ : ∀ y ∈ rs, True) (_ : rs.length ≤ maxLen)
    (a2 : Option Addr) (c2 : Nat) (ages : List Int) (s2 : SlI W a2 ages) (_ : ∀ y ∈ ages, IntOk .i64 y) (_ : ages.length ≤ maxLen) (p : Int) (_ : (Lit.int .i64 p).wf = true)
    (dr : Int) (wd : (Lit.int .u8 dr).wf = true) :
    Calls Try.prog 8 #[.slice a0 cs.length c0, .slice a1 rs.length c1, .slice a2 ages.length c2, .int .i64 p, .int .u8 dr] W fun e W' => e = .returned (.bool true) ∧ Below W.heap.size W W' := by
  have HAW := Lib.hid (awake_ok W)
  have hdr : 0 ≤ dr ∧ dr ≤ 255 := by simpa [Lit.wf, IntKind.min, IntKind.max, IntKind.signed, IntKind.bits] using wd
  obtain ⟨hd0, hd1⟩ := hdr
  clear wd
  have S0 := Lib.hid s0; have S1 := Lib.hid s1; have S2 := Lib.hid s2; clear s0 s1 s2
  have early : (((rs.length : Int) == 0) = true) ∨ (((rs.length : Int) == 0) = false ∧ (70 : Int) < rs.length) ∨ (((rs.length : Int) == 0) = false ∧ ¬ (70 : Int) < rs.length ∧ ((cs.length : Int) != (rs.length : Int)) = true) ∨
      (((rs.length : Int) == 0) = false ∧ ¬ (70 : Int) < rs.length ∧ ((cs.length : Int) != (rs.length : Int)) = false ∧ ((ages.length : Int) != (rs.length : Int)) = true) ∨ (0 < rs.length ∧ rs.length ≤ 70 ∧ cs.length = rs.length ∧ ages.length = rs.length) := by
    simp only [bne_iff_ne, bne_eq_false_iff_eq, beq_iff_eq, beq_eq_false_iff_ne]
    omega
  rcases early with e1 | ⟨e1, e2⟩ | ⟨e1, e2, e3⟩ | ⟨e1, e2, e3, e4⟩ | ⟨l1, l2, l3, l4⟩
  iterate 4
    · go_enter Try.func8, Try.ntmps8
      go_wp2_with fail
      refine HAW.out.mono ?_
      rintro e w1 ⟨rfl, hb⟩
      have B1 := Lib.hid hb; clear hb
      go_wp2_with fail
      go_ret
      exact ⟨rfl, B1.out⟩
  rw [l3, l4]
  have L3 := Lib.hid l3; have L4 := Lib.hid l4
  generalize hn : rs.length = n at *
  have HN := Lib.hid hn
  clear hn l3 l4
  have h0 : ((n : Int) == 0) = false := by rw [beq_eq_false_iff_ne]; omega
  have hne : ((n : Int) != (n : Int)) = false := by simp
  have h70 : ¬ (70 : Int) < (n : Int) := by omega
  have hmem := rk_mem cs rs ages p n HN.out
  have hbest := rk_best cs rs ages p n
  generalize hr : rk cs rs ages p n = r at hmem hbest
  have HR := Lib.hid hr; clear hr
  have hI : (0 : Int) < (n : Int) := by omega
  go_enter Try.func8, Try.ntmps8
  go_wp2_with fail
  refine HAW.out.mono ?_
  rintro e w1 ⟨rfl, hb⟩
  have B1 := Lib.hid hb; clear hb
  have RA := Lib.hid (ranked_any w1 a0 a1 a2 n c0 c1 c2 p cs rs ages (by omega) L3.out HN.out L4.out (S0.out.below B1.out) (S1.out.below B1.out) (S2.out.below B1.out))
  rw [HR.out] at RA
  have HMEM := Lib.hid hmem
  rcases hbest with ⟨rfl, _⟩ | ⟨c, rfl, hc, hrc, _⟩
  · clear hmem
    go_wp2_with fail
    refine RA.out.mono ?_
    rintro e w2 ⟨rfl, hb⟩
    have B2 := Lib.hid (B1.out.trans (hb.mono B1.out.size)); clear hb
    have CB := Lib.hid (containsBool_any w2 a1 c1 rs true (S1.out.below B2.out) (by rw [HN.out]; omega))
    have hdec : decide (true ∈ rs) = false := by
      rw [decide_eq_false_iff_not, ← HMEM.out]
      omega
    rw [HN.out, hdec] at CB
    clear hdec
    go_wp2_with fail
    refine CB.out.mono ?_
    rintro e w3 ⟨rfl, rfl⟩
    go_wp2_with fail
    go_ret
    exact ⟨rfl, B2.out⟩
  · have hcell : Hid (rs[c]? = some true) := by
      show _ = _
      rw [List.getD_eq_getElem?_getD, List.getElem?_eq_getElem (by rw [HN.out]; omega)] at hrc
      rw [List.getElem?_eq_getElem (by rw [HN.out]; omega)]
      simpa using hrc
    clear hmem hrc
    have hcn : (c : Int) < (n : Int) := by omega
    have hcg : ¬ (c : Int) < 0 := by omega
    have hcn2 : ¬ (n : Int) ≤ (c : Int) := by omega
    obtain ⟨d, hd⟩ : ∃ d : Nat, dr % (n : Int) = d := ⟨(dr % (n : Int)).toNat, by have := Int.emod_nonneg dr (show (n : Int) ≠ 0 by omega); omega⟩
    have hdn : d < n := by have := Int.emod_lt_of_pos dr (show (0 : Int) < n by omega); omega
    have hdn' : (d : Int) < (n : Int) := by omega
    have HD := Lib.hid hd
    have less := Lib.hid (rk_less cs rs ages p n d c HN.out HR.out)
    go_wp2_with fail
    refine RA.out.mono ?_
    rintro e w2 ⟨rfl, hb⟩
    have B2 := Lib.hid (B1.out.trans (hb.mono B1.out.size)); clear hb
    have cc := (S1.out.below B2.out) c true hcell.out
    obtain ⟨oc, cc⟩ := cc
    have CL := Lib.hid (cloneBool_any w2 a1 c1 rs (S1.out.below B2.out) (by rw [HN.out]; omega))
    rw [HN.out] at CL
    go_wp2_with fail
    refine CL.out.mono ?_
    rintro e w3 ⟨v, rfl, hv, hb⟩
    obtain ⟨g, sp, cv, rfl, hg, hbk⟩ := hv.pos (by intro e; have := HN.out; rw [e] at this; simp at this; omega)
    rw [HN.out]
    have c1' := hbk.cell (i := d) (v := .bool (rs[d]'(by rw [HN.out]; exact hdn))) (by rw [List.getElem?_append_left (by simp [HN.out]; exact hdn)]; simp)
    have f1 := hbk.free d
    have hbk2 := hbk.setL (k := d) (by rw [HN.out]; exact hdn) false
    have c2' := hbk2.cell (i := c) (v := .bool ((rs.set d false)[c]'(by simp [HN.out]; exact hc))) (by rw [List.getElem?_append_left (by simp [HN.out]; exact hc), List.getElem?_map, List.getElem?_eq_getElem (by simp [HN.out]; exact hc)]; rfl)
    have f2 := hbk2.free c
    have hbk3 := Lib.hid (hbk2.setL (k := c) (by simp [HN.out]; exact hc) true)
    have hg' : w2.heap.size ≤ g := hg
    have B3 := Lib.hid ((B2.out.trans (hb.mono B2.out.size)).setCell (p := ⟨g, d, none⟩) (Nat.le_trans B2.out.size hg) (.bool false) |>.setCell (p := ⟨g, c, none⟩) (Nat.le_trans B2.out.size hg) (.bool true))
    have RA2 := Lib.hid (ranked_any ((w3.setCell ⟨g, d, none⟩ (.bool false)).setCell ⟨g, c, none⟩ (.bool true)) a0 (some ⟨g, 0, none⟩) a2 n c0 cv c2 p cs ((rs.set d false).set c true) ages (by omega) L3.out (by simp [HN.out]) L4.out (S0.out.below B3.out) hbk3.out.slL (S2.out.below B3.out))
    rw [less.out] at RA2
    clear hv hb hbk hbk2 hg
    go_wp2_with fail
    refine RA2.out.mono ?_
    rintro e w4 ⟨rfl, hb⟩
    have B4 := Lib.hid (B3.out.trans (hb.mono B3.out.size)); clear hb
    go_wp2_with fail
    go_ret
    exact ⟨rfl, B4.out⟩
end Go.Proofs.Ythjlknomaoolaaa
