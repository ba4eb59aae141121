/-
  The walk of the law BranchHolds.
-/
import Derived.Test.YteomiofmaopkhaaRan
namespace Go.Proofs.Yteomiofmaopkhaa
open Go.RowKit
set_option linter.unusedVariables false

abbrev OwnL (w : World) (B : Nat) (v : Value) (l : List Int) : Prop := w.ownsRow B 3 1 v l.length (l.map (Value.int .i64))
def BhRel (wc : World) (o : Nat) (st : RunSt) (lv i : Value) (w : World) : Prop := ∃ k : Nat, k ≤ st.put.length ∧ i = .int .i64 k ∧ OwnL w wc.heap.size lv (waitL o st.fs k) ∧ Below wc.heap.size wc w
def BhRel2 (wc : World) (o : Nat) (st : RunSt) (j : Nat) (lv i : Value) (w : World) : Prop := ∃ k : Nat, k ≤ o ∧ i = .int .i64 k ∧ OwnL w wc.heap.size lv (waitL o st.fs j) ∧ (List.range k).any (fun k => decide ((j : Int) ∈ wIds st.fs k)) = false ∧ Below wc.heap.size wc w
theorem waitL_len (o : Nat) (fs : List Fr) (n : Nat) : (waitL o fs n).length ≤ n := by
  unfold waitL
  rw [List.length_map]
  exact Nat.le_trans (List.length_filter_le _ _) (by simp)
set_option maxHeartbeats 8000000 in
set_option maxRecDepth 100000 in
theorem branchHolds_walk (W : World) (n : Int) (w0 : (Lit.int .i64 n).wf = true) (room : Int) (w1 : (Lit.int .i64 room).wf = true) (a2 : Option Addr) (c2 : Nat) (xs : List OpR) (s2 : SlOp W a2 xs) (g2 : ∀ x ∈ xs, OpOk W x) (m2 : xs.length ≤ maxLen) :
    Calls Try.prog 9 #[.int .i64 n, .int .i64 room, .slice a2 xs.length c2] W fun e W' => e = .returned (.bool true) ∧ Below W.heap.size W W' := by
  have HAW := Lib.hid (awake_ok W)
  obtain ⟨i0, hi, hz0, hz1, hz2⟩ := info_parts Try.infoBI
  have HI := Lib.hid hi; have HZ0 := Lib.hid hz0; have HZ1 := Lib.hid hz1; have HZ2 := Lib.hid hz2
  clear hi hz0 hz1 hz2
  have S := Lib.hid s2; have G := Lib.hid g2; have M := Lib.hid m2
  clear s2 g2 w0 w1 m2
  go_enter Try.func9, Try.ntmps9
  go_wp2_with fail
  refine HAW.out.mono ?_
  rintro e wa ⟨rfl, hb⟩
  have BA := Lib.hid hb; clear hb
  have S1 := Lib.hid (S.out.below BA.out)
  have G1 : Hid (∀ x ∈ xs, OpOk wa x) := fun x hx => (G.out x hx).below BA.out
  have F := Lib.hid (fits_any wa n room a2 c2 xs S1.out G1.out M.out)
  go_wp2_with fail
  refine F.out.mono ?_
  rintro e wb ⟨rfl, hb⟩
  have BB := Lib.hid (BA.out.trans (hb.mono BA.out.size))
  have S2 := Lib.hid (S1.out.below hb)
  have G2 : Hid (∀ x ∈ xs, OpOk wb x) := fun x hx => (G1.out x hx).below hb
  clear hb
  cases hf : fitsB n room xs with
  | false =>
    clear hf
    go_wp2_with fail
    go_ret
    exact ⟨rfl, BB.out⟩
  | true =>
    obtain ⟨h1, h2, h3, h4, h5, h6⟩ := fits_hb hf
    clear hf
    obtain ⟨o, rfl⟩ : ∃ o : Nat, n = o := ⟨n.toNat, by omega⟩
    have R := Lib.hid (run_any wb o room a2 c2 xs S2.out G2.out (by omega) (by omega) h3 h4 h5 h6)
    have HOLD := Lib.hid (runAll_held (o := o) (room := room) (by omega) (by omega) xs)
    have ORD := Lib.hid (runAll_order (o := o) (room := room) (by omega) (by omega) xs)
    clear h6
    go_wp2_with fail
    refine R.out.mono ?_
    rintro e wc ⟨b, ml, pv, rfl, hat, hinv⟩
    generalize runAll o room xs = st at *
    obtain ⟨ap, cp, rfl, hran⟩ := Ran.of hat
    have INV := Lib.hid hinv; have RAN := Lib.hid hran
    have hpl := hinv.pk; have hfl := hinv.fr; have hf0 := hinv.f0
    clear hat hinv hran
    go_wp2_with fail
    go_loopw [11, 35] (fun lv i wr => BhRel wc o st lv i wr) (fun _ i _ => st.put.length - (intOf i).toNat)
    case atStart => exact ⟨0, Nat.zero_le _, rfl, ⟨rfl, .inl ⟨rfl, rfl⟩⟩, Below.refl _ _⟩
    case round =>
      obtain ⟨j, hj, rfl, hown, hbel⟩ := hrel
      have OWN := Lib.hid hown; have HB := Lib.hid hbel
      clear hown hbel
      have hwj := waitL_len o st.fs j
      by_cases hlt : j < st.put.length
      · obtain ⟨wo, rfl⟩ : ∃ wo : World, wo = wr := ⟨_, rfl⟩
        go_wp2_with fail
        go_loopw [11, 39] (fun lv i wr => BhRel2 wc o st j lv i wr) (fun _ i _ => o - (intOf i).toNat)
        case atStart => exact ⟨0, Nat.zero_le _, rfl, OWN.out, rfl, HB.out⟩
        case round =>
          obtain ⟨k, hk, rfl, hown, hno, hbel⟩ := hrel
          clear OWN HB
          have OWN := Lib.hid hown; have HB := Lib.hid hbel; have NO := Lib.hid hno
          clear hown hbel hno
          by_cases hko : k < o
          · have R1 := Lib.hid (RAN.out.below HB.out)
            have W1 := Lib.hid (wait_ran R1.out INV.out h4 k hko (by omega))
            have hbs := HB.out.size
            go_wp2_with fail
            refine W1.out.mono ?_
            rintro e x1 ⟨v1, rfl, hr1, hb1⟩
            obtain ⟨a1, c1, rfl, hrest⟩ := hr1
            have S1 : Hid (SlI x1 a1 (wIds st.fs k)) := Rw.sl (⟨a1, c1, rfl, hrest⟩ : Rw (Value.int .i64) 3 x1 wr.heap.size _ _)
            have O1 := Lib.hid (own_upd (S := fun _ => False) OWN.out (Upd.of_below hb1) (fun _ _ => id))
            have B1 := Lib.hid (HB.out.trans (hb1.mono hbs))
            have hwl := wIds_len st.fs k
            have C := Lib.hid (containsInt_any x1 a1 c1 (wIds st.fs k) j S1.out (by unfold maxLen; omega))
            have hbs1 := B1.out.size
            clear hb1 hrest
            go_wp2_with fail
            refine C.out.mono ?_
            rintro e x2 ⟨rfl, rfl⟩
            obtain ⟨al, cl, rfl, _⟩ := own_shape OWN.out
            by_cases hm : (j : Int) ∈ wIds st.fs k
            · have hd : decide ((j : Int) ∈ wIds st.fs k) = true := by simpa using hm
              have hst : Hid (waitL o st.fs (j + 1) = waitL o st.fs j ++ [(j : Int)]) := by
                show _ = _
                rw [waitL_succ, if_pos]
                unfold waitsB
                rw [List.any_eq_true]
                exact ⟨k, List.mem_range.2 hko, hd⟩
              rw [hd]
              clear hd hm C W1 R1 S1
              go_wp2_with (at_builtin; refine wpList_append_own _ rfl _ _ 26 rfl wc.heap.size 3 i0 _ 1 8 Try.underlying26 HI.out HZ0.out HZ1.out HZ2.out rfl (by decide) _ (waitL o st.fs j).length ((waitL o st.fs j).map (Value.int .i64)) rfl ?c0 ⟨x2.heap.size, 0, none⟩ 1 1 [.int .i64 j] rfl ?c1 ?c2 ?c3 ?c4 ?c5 ?c6 ?_)
              case c0 => exact O1.out.alloc _
              case c1 => rfl
              case c2 => exact news_new (vs := [.int .i64 j]) rfl
              case c3 => intro u hu; simp at hu; subst hu; rfl
              case c4 => unfold maxLen; omega
              case c5 => omega
              case c6 => simp; omega
              intro v' w2 hown' hgr hnil
              have B2 : Hid (Below wc.heap.size wc w2) := ((B1.out.alloc hbs1 _).grown ⟨hgr.os, hgr.tape, hgr.output, hgr.size, hgr.block⟩ (by simp; omega) (fun j hj => (own_lt O1.out hj).2))
              have OWN2 : Hid (OwnL w2 wc.heap.size v' (waitL o st.fs (j + 1))) := by
                show World.ownsRow _ _ _ _ _ _ _
                rw [hst.out, List.length_append, List.map_append]
                exact hown'
              clear hown' hgr hnil
              go_wp2_with fail
              go_roundw
              case rel => exact ⟨j + 1, by omega, by go_num, OWN2.out, B2.out⟩
              case measure => simp [intOf]; omega
            · have hd : decide ((j : Int) ∈ wIds st.fs k) = false := by simpa using hm
              have hst : Hid ((List.range (k + 1)).any (fun k => decide ((j : Int) ∈ wIds st.fs k)) = false) := by
                show _ = _
                rw [List.range_succ, List.any_append, NO.out]
                simp [hm]
              rw [hd]
              clear hd hm C W1 R1 S1
              go_wp2_with fail
              go_roundw
              case rel => exact ⟨k + 1, by omega, by go_num, O1.out, hst.out, B1.out⟩
              case measure => simp [intOf]; omega
          · obtain rfl : k = o := by omega
            have hst : Hid (waitL k st.fs (j + 1) = waitL k st.fs j) := by
              show _ = _
              rw [waitL_succ, if_neg, List.append_nil]
              unfold waitsB
              rw [NO.out]; decide
            go_wp2_with fail
            go_roundw
            case rel => exact ⟨j + 1, by omega, by go_num, by rw [hst.out]; exact OWN.out, HB.out⟩
            case measure => simp [intOf]; omega
      · obtain rfl : j = st.put.length := by omega
        have e : Hid (waitL o st.fs st.put.length = hIds st.fs) := waitL_all HOLD.out INV.out.ids
        rw [e.out] at OWN
        have R1 := Lib.hid (RAN.out.below HB.out)
        have H1 := Lib.hid (held_ran R1.out INV.out h4)
        obtain ⟨al, cl, rfl, _⟩ := own_shape OWN.out
        have hbs := HB.out.size
        clear hwj
        go_wp2_with fail
        refine H1.out.mono ?_
        rintro e x1 ⟨v1, rfl, hr1, hb1⟩
        obtain ⟨a1, c1, rfl, hrest⟩ := hr1
        have S1 : Hid (SlI x1 a1 (hIds st.fs)) := Rw.sl (⟨a1, c1, rfl, hrest⟩ : Rw (Value.int .i64) 3 x1 wr.heap.size _ _)
        have S2 : Hid (SlI x1 al (hIds st.fs)) := (own_sl OWN.out).below hb1
        have B1 := Lib.hid (HB.out.trans (hb1.mono hbs))
        have hhl : (hIds st.fs).length = st.fs.length := by simp [hIds]
        have E := Lib.hid (equalInt_same x1 a1 al c1 cl (hIds st.fs) S1.out S2.out (by unfold maxLen; omega))
        have hle : ((hIds st.fs).length : Int) ≤ room := by omega
        have hcnt := INV.out.cnt
        have heq : (((hIds st.fs).length : Int) + st.freed == (st.put.length : Int)) = true := by rw [beq_iff_eq]; omega
        have hf9 : st.freed ≤ 1000 := by omega
        have hl9 : (hIds st.fs).length ≤ 1000 := by omega
        clear hb1 hrest hhl hcnt
        go_wp2_with fail
        refine E.out.mono ?_
        rintro e x2 ⟨rfl, q⟩
        have R2 := Lib.hid (RAN.out.below (B1.out.trans (q.below _)))
        have FR := Lib.hid (freed_ran R2.out)
        clear q
        go_wp2_with fail
        refine FR.out.mono ?_
        rintro e x3 ⟨rfl, rfl⟩
        go_wp2_with fail
        go_ret
        exact ⟨rfl, BB.out.trans (R2.out.bel.mono BB.out.size)⟩
end Go.Proofs.Yteomiofmaopkhaa
