/-
  The walk of the law BranchOrder.
-/
import Derived.Test.YteomiofmaopkhaaRan
namespace Go.Proofs.Yteomiofmaopkhaa
open Go.RowKit
set_option linter.unusedVariables false

def BoRel (w0 : World) (o : Nat) (room : Int) (st : RunSt) (b ml : Nat) (ap : Option Addr) (cp : Nat) (i : Value) (w : World) : Prop := ∃ k : Nat, k ≤ o ∧ i = .int .i64 k ∧ Ran w0 o room st b ml ap cp w
set_option maxHeartbeats 8000000 in
set_option maxRecDepth 100000 in
theorem branchOrder_walk (W : World) (n : Int) (w0 : (Lit.int .i64 n).wf = true) (room : Int) (w1 : (Lit.int .i64 room).wf = true) (a2 : Option Addr) (c2 : Nat) (xs : List OpR) (s2 : SlOp W a2 xs) (g2 : ∀ x ∈ xs, OpOk W x) (m2 : xs.length ≤ maxLen) :
    Calls Try.prog 8 #[.int .i64 n, .int .i64 room, .slice a2 xs.length c2] W fun e W' => e = .returned (.bool true) ∧ Below W.heap.size W W' := by
  have HAW := Lib.hid (awake_ok W)
  obtain ⟨i0, hi, hz0, hz1, hz2⟩ := info_parts Try.infoBI
  have HI := Lib.hid hi; have HZ0 := Lib.hid hz0; have HZ1 := Lib.hid hz1; have HZ2 := Lib.hid hz2
  clear hi hz0 hz1 hz2
  have S := Lib.hid s2; have G := Lib.hid g2; have M := Lib.hid m2
  clear s2 g2 w0 w1 m2
  go_enter Try.func8, Try.ntmps8
  go_wp2_with fail
  refine HAW.out.mono ?_
  rintro e wa ⟨rfl, hb⟩
  have BA := Lib.hid hb; clear hb
  have S1 := Lib.hid (S.out.below BA.out)
  have G1 : Hid (∀ x ∈ xs, OpOk wa x) := fun x hx => (G.out x hx).below BA.out
  have F := Lib.hid (fits_any wa n room a2 c2 xs S1.out G1.out M.out)
  go_wp2_with fail
  refine F.out.mono ?_
  rintro e wb ⟨rfl, hb⟩
  have BB := Lib.hid (BA.out.trans (hb.mono BA.out.size))
  have S2 := Lib.hid (S1.out.below hb)
  have G2 : Hid (∀ x ∈ xs, OpOk wb x) := fun x hx => (G1.out x hx).below hb
  clear hb
  cases hf : fitsB n room xs with
  | false =>
    clear hf
    go_wp2_with fail
    go_ret
    exact ⟨rfl, BB.out⟩
  | true =>
    obtain ⟨h1, h2, h3, h4, h5, h6⟩ := fits_hb hf
    clear hf
    obtain ⟨o, rfl⟩ : ∃ o : Nat, n = o := ⟨n.toNat, by omega⟩
    have R := Lib.hid (run_any wb o room a2 c2 xs S2.out G2.out (by omega) (by omega) h3 h4 h5 h6)
    have ORD := Lib.hid (runAll_order (o := o) (room := room) (by omega) (by omega) xs)
    clear h6
    go_wp2_with fail
    refine R.out.mono ?_
    rintro e wc ⟨b, ml, pv, rfl, hat, hinv⟩
    generalize runAll o room xs = st at *
    obtain ⟨ap, cp, rfl, hran⟩ := Ran.of hat
    have INV := Lib.hid hinv; have RAN := Lib.hid hran
    clear hat hinv hran
    go_wp2_with fail
    go_loopw [31] (fun i wr => BoRel wb o room st b ml ap cp i wr) (fun i _ => o - (intOf i).toNat)
    case atStart => exact ⟨0, Nat.zero_le _, rfl, RAN.out⟩
    case round =>
      obtain ⟨k, hk, rfl, hran⟩ := hrel
      have RA := Lib.hid hran; clear hran RAN
      by_cases hlt : k < o
      · obtain ⟨l, el, eo⟩ := ORD.out k hlt
        obtain ⟨ar, cr, lc, lsl⟩ := RA.out.left el
        have hll : l.length ≤ 200 := by have := INV.out.lk l (List.mem_of_getElem? el); omega
        have hfl := INV.out.fr
        have hpl := INV.out.pk
        have hwl := wIds_len st.fs k
        have EO := Lib.hid eo
        have C1 := Lib.hid (cloneInt_any wr ar cr l lsl (by omega))
        clear el eo lsl
        go_wp2_with fail
        refine C1.out.mono ?_
        rintro e x1 ⟨v1, rfl, hr1, hb1⟩
        have B1 := Lib.hid hb1
        have R1 := Lib.hid (RA.out.below hb1)
        have O1 := Lib.hid hr1.own
        have W1 := Lib.hid (wait_ran R1.out INV.out h4 k hlt (by omega))
        clear hb1 hr1 C1 lc
        go_wp2_with fail
        refine W1.out.mono ?_
        rintro e x2 ⟨v2, rfl, hr2, hb2⟩
        have B2 := Lib.hid (B1.out.trans (hb2.mono B1.out.size))
        have O2 : Hid (World.ownsRow x2 wr.heap.size 3 1 v1 l.length (l.map (Value.int .i64))) := own_upd (S := fun _ => False) O1.out (Upd.of_below hb2) (fun _ _ => id)
        obtain ⟨a2', c2', rfl, hrest⟩ := hr2
        have SW : Hid (SlI x2 a2' (wIds st.fs k)) := Rw.sl (⟨a2', c2', rfl, hrest⟩ : Rw (Value.int .i64) 3 x2 x1.heap.size _ _)
        have hsz := B2.out.size
        clear hb2 hrest W1 B1 O1 R1
        go_wp2_with (at_builtin; refine wpList_append_sl rfl _ _ 26 rfl wr.heap.size 3 i0 _ 8 Try.underlying26 HI.out HZ0.out HZ1.out HZ2.out rfl _ l.length (l.map (Value.int .i64)) rfl O2.out (Value.int .i64) (fun _ => rfl) a2' c2' (wIds st.fs k) rfl SW.out ?c1 ?c2 ?c3 ?_)
        case c1 => unfold maxLen; omega
        case c2 => omega
        case c3 => exact hsz
        intro v3 x3 hown3 hgr3 hat3
        have B3 := Lib.hid (B2.out.grown hgr3 hsz (fun j hj => (own_lt O2.out hj).2))
        have R3 := Lib.hid (RA.out.below B3.out)
        rw [← List.map_append, EO.out] at hown3
        have hlen : l.length + (wIds st.fs k).length = (ownIds k 0 st.put).length := by rw [← EO.out, List.length_append]
        rw [hlen] at hown3
        obtain ⟨a3, c3, rfl, _⟩ := own_shape hown3
        have O3 := Lib.hid hown3
        have HLEN := Lib.hid hlen
        have OW := Lib.hid (own_ran R3.out (by omega) (k : Int))
        have hol := ownIds_len (k : Int) st.put 0
        clear hown3 hgr3 hat3 hlen SW O2
        go_wp2_with fail
        refine OW.out.mono ?_
        rintro e x4 ⟨v4, rfl, hr4, hb4⟩
        have B4 := Lib.hid (B3.out.trans (hb4.mono B3.out.size))
        have S3 : Hid (SlI x4 a3 (ownIds k 0 st.put)) := (own_sl O3.out).below hb4
        obtain ⟨a4, c4, rfl, hrest⟩ := hr4
        have S4 : Hid (SlI x4 a4 (ownIds k 0 st.put)) := Rw.sl (⟨a4, c4, rfl, hrest⟩ : Rw (Value.int .i64) 3 x4 x3.heap.size _ _)
        have EQ := Lib.hid (equalInt_same x4 a3 a4 c3 c4 (ownIds k 0 st.put) S3.out S4.out (by unfold maxLen; omega))
        clear hb4 hrest OW O3
        go_wp2_with fail
        refine EQ.out.mono ?_
        rintro e x5 ⟨rfl, q⟩
        have R5 := Lib.hid (RA.out.below (B4.out.trans (q.below _)))
        clear q EQ
        go_wp2_with fail
        go_roundw
        case rel => exact ⟨k + 1, by omega, by go_num, R5.out⟩
        case measure => simp [intOf]; omega
      · go_wp2_with fail
        go_ret
        exact ⟨rfl, BB.out.trans (RA.out.bel.mono BB.out.size)⟩
end Go.Proofs.Yteomiofmaopkhaa
