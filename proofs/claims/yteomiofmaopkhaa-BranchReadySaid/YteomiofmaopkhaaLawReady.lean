/-
  The walk of the law BranchReady.
-/
import Derived.Test.YteomiofmaopkhaaRdyLib
namespace Go.Proofs.Yteomiofmaopkhaa
open Go.RowKit
set_option linter.unusedVariables false

def MkRel (wB : World) (a : Option Addr) (n c : Nat) (i : Value) (wr : World) : Prop :=
  ∃ (k : Nat) (ys : List Int), k ≤ n ∧ i = .int .i64 k ∧ ys.length = n ∧ Rw (Value.int .i64) 3 wr wB.heap.size (.slice a n c) ys ∧ Below wB.heap.size wB wr
def RdRel (y2 : World) (o : Nat) (i : Value) (wr : World) : Prop := ∃ k : Nat, k ≤ o ∧ i = .int .i64 k ∧ Below y2.heap.size y2 wr
theorem wIds_neg {fs : List Fr} {k : Nat} (h : ∀ x ∈ fs, 0 ≤ x.id) : ¬ (-9 : Int) ∈ wIds fs k := by
  intro hm
  unfold wIds at hm
  obtain ⟨x, hx, e⟩ := List.mem_map.1 hm
  have := h x (List.mem_filter.1 hx).1
  omega
set_option maxHeartbeats 8000000 in
set_option maxRecDepth 100000 in
theorem branchReady_walk (W : World) (n : Int) (w0 : (Lit.int .i64 n).wf = true) (room : Int) (w1 : (Lit.int .i64 room).wf = true) (a2 : Option Addr) (c2 : Nat) (xs : List OpR) (s2 : SlOp W a2 xs) (g2 : ∀ x ∈ xs, OpOk W x) (m2 : xs.length ≤ maxLen) (a3 : Option Addr) (c3 : Nat) (rdy : List Bool) (s3 : SlB W a3 rdy) (g3 : ∀ y ∈ rdy, True) (m3 : rdy.length ≤ maxLen) :
    Calls Try.prog 10 #[.int .i64 n, .int .i64 room, .slice a2 xs.length c2, .slice a3 rdy.length c3] W fun e W' => e = .returned (.bool true) ∧ Below W.heap.size W W' := by
  have HAW := Lib.hid (awake_ok W)
  obtain ⟨i0, hi, hz0, hz1, hz2⟩ := info_parts Try.infoBI
  have HI := Lib.hid hi; have HZ0 := Lib.hid hz0; have HZ1 := Lib.hid hz1; have HZ2 := Lib.hid hz2
  clear hi hz0 hz1 hz2
  have S := Lib.hid s2; have G := Lib.hid g2; have M := Lib.hid m2
  unfold maxLen at m3
  clear s2 g2 w0 w1 m2 s3 g3
  go_enter Try.func10, Try.ntmps10
  go_wp2_with fail
  refine HAW.out.mono ?_
  rintro e wa ⟨rfl, hb⟩
  have BA := Lib.hid hb; clear hb
  have S1 := Lib.hid (S.out.below BA.out)
  have G1 : Hid (∀ x ∈ xs, OpOk wa x) := fun x hx => (G.out x hx).below BA.out
  have F := Lib.hid (fits_any wa n room a2 c2 xs S1.out G1.out M.out)
  go_wp2_with fail
  refine F.out.mono ?_
  rintro e wb ⟨rfl, hb⟩
  have BB := Lib.hid (BA.out.trans (hb.mono BA.out.size))
  have S2 := Lib.hid (S1.out.below hb)
  have G2 : Hid (∀ x ∈ xs, OpOk wb x) := fun x hx => (G1.out x hx).below hb
  clear hb
  cases hf : fitsB n room xs with
  | false =>
    clear hf
    go_wp2_with fail
    go_ret
    exact ⟨rfl, BB.out⟩
  | true =>
    obtain ⟨h1, h2, h3, h4, h5, h6⟩ := fits_hb hf
    clear hf
    obtain ⟨o, rfl⟩ : ∃ o : Nat, n = o := ⟨n.toNat, by omega⟩
    by_cases hbig : (12 : Int) < (rdy.length : Int)
    · clear h6
      go_wp2_with fail
      go_ret
      exact ⟨rfl, BB.out⟩
    have R := Lib.hid (run_any wb o room a2 c2 xs S2.out G2.out (by omega) (by omega) h3 h4 h5 h6)
    have HOLD := Lib.hid (runAll_held (o := o) (room := room) (by omega) (by omega) xs)
    have ORD := Lib.hid (runAll_order (o := o) (room := room) (by omega) (by omega) xs)
    clear h6
    go_wp2_with fail
    refine R.out.mono ?_
    rintro e wc ⟨b, ml, pv, rfl, hat, hinv⟩
    generalize runAll o room xs = st at *
    obtain ⟨ap, cp, rfl, hran⟩ := Ran.of hat
    have INV := Lib.hid hinv; have RAN := Lib.hid hran
    have hpl := hinv.pk; have hfl := hinv.fr; have hf0 := hinv.f0
    clear hat hinv hran
    have hmk := fun w => make_bools w o (by omega)
    generalize hLB : (List.replicate o false).map Value.bool = LB at hmk
    have HLB := Lib.hid hLB; clear hLB
    have hoo : ((o : Int) != (o : Int)) = false := by simp
    have H1 := Lib.hid (held_ran RAN.out INV.out h4)
    go_wp2_with fail
    refine H1.out.mono ?_
    rintro e x1 ⟨v1, rfl, hr1, hb1⟩
    obtain ⟨ah, ch, rfl, hrest⟩ := hr1
    have S1 : Hid (SlI x1 ah (hIds st.fs)) := Rw.sl (⟨ah, ch, rfl, hrest⟩ : Rw (Value.int .i64) 3 x1 wc.heap.size _ _)
    have HBS : Hid (hIds st.fs ≠ [] → wc.heap.size ≤ (ah.getD default).block) := fun hx => Rw.base (⟨ah, ch, rfl, hrest⟩ : Rw (Value.int .i64) 3 x1 wc.heap.size _ _) hx
    have B1 := Lib.hid hb1
    have R1 := Lib.hid (RAN.out.below hb1)
    have HHL : Hid ((hIds st.fs).length = st.fs.length) := by show _ = _; simp [hIds]
    have hhl : (hIds st.fs).length ≤ 1000 := by rw [HHL.out]; omega
    clear hrest hb1 H1
    have FR := Lib.hid (freed_ran R1.out)
    go_wp2_with fail
    refine FR.out.mono ?_
    rintro e x1' ⟨rfl, rfl⟩
    -- the step in which nothing is ready
    have ba : Below x1.heap.size x1 (x1.alloc (.cells LB.toArray 4)) := (Below.refl _ _).alloc (Nat.le_refl _) _
    have hab : SlB (x1.alloc (.cells LB.toArray 4)) (some ⟨x1.heap.size, 0, none⟩) (List.replicate o false) := by
      have := Blk.new x1 4 LB
      rw [← HLB.out] at this
      rw [← HLB.out]
      exact this.sl
    have hszx := B1.out.size
    have SI := Lib.hid (step_idle RAN.out (B1.out.trans (ba.mono hszx)) INV.out HOLD.out h4 (by omega) (by omega) (some ⟨x1.heap.size, 0, none⟩) o hab (by omega) hszx)
    have SHa := Lib.hid (S1.out.below ba)
    have RA := Lib.hid (R1.out.below ba)
    clear ba hab
    have SW := Lib.hid (fun (hro : ¬ rdy.length = o) => step_wrong R1.out a3 rdy.length c3 hro)
    by_cases hro : rdy.length = o
    · have hnb : ((rdy.length : Int) != (o : Int)) = false := by simp [hro]
      clear hro SW
      go_wp2_with fail
      refine SI.out.mono ?_
      rintro e y1 ⟨rfl, hx, hran, hU, hw0⟩
      clear hnb hmk
      generalize x1.alloc (.cells LB.toArray 4) = x3 at *
      have RY := Lib.hid hran
      have SHy : Hid (SlI y1 ah (hIds st.fs)) := SHa.out.upd hU (fun hne hin => by
        have h2 := HBS.out hne
        have h3 := hin.2
        omega)
      have BY0 : Hid (Below wb.heap.size wb y1) := hran.bel
      have CN := Lib.hid (cont_neg y1 (some ⟨x3.heap.size, 0, none⟩) o o (Blk.sl hx) (by omega))
      clear hran hU hx SI hw0
      go_wp2_with fail
      refine CN.out.mono ?_
      rintro e y2 ⟨rfl, hb⟩
      have RY2 := Lib.hid (RY.out.below hb)
      have SH2 := Lib.hid (SHy.out.below hb)
      clear hb CN
      have H2 := Lib.hid (held_ran RY2.out INV.out h4)
      go_wp2_with fail
      refine H2.out.mono ?_
      rintro e y3 ⟨v3, rfl, hr3, hb3⟩
      obtain ⟨ac, cc, rfl, hrest⟩ := hr3
      have RW3 : Hid (Rw (Value.int .i64) 3 y3 y2.heap.size (.slice ac (hIds st.fs).length cc) (hIds st.fs)) := ⟨ac, cc, rfl, hrest⟩
      have B3 := Lib.hid hb3
      clear hrest hb3 H2
      go_wp2_with fail
      go_loopw [75] (fun i wr => MkRel y2 ac (hIds st.fs).length cc i wr) (fun i _ => (hIds st.fs).length - (intOf i).toNat)
      case atStart => exact ⟨0, hIds st.fs, Nat.zero_le _, rfl, rfl, RW3.out, B3.out⟩
      case round =>
        obtain ⟨k, ys, hk, rfl, hyl, hrw, hbel⟩ := hrel
        have HY := Lib.hid hyl; have RW := Lib.hid hrw; have BY := Lib.hid hbel
        clear hyl hrw hbel
        by_cases hlt : k < (hIds st.fs).length
        · obtain ⟨z, ez, okz, cz⟩ := (Rw.sl RW.out).get (k := k) (by rw [HY.out]; exact hlt)
          obtain ⟨r1, r2, r3⟩ := Rw.set RW.out (k := k) (by rw [HY.out]; exact hlt) (-9)
          have R1 := Lib.hid r1; have R2 := Lib.hid r2
          have B1 := Lib.hid (BY.out.setCell r2 (.int .i64 (-9)))
          clear r1 r2 ez
          go_wp2_with fail
          go_roundw
          case rel => exact ⟨k + 1, ys.set k (-9), by omega, by go_num, by rw [List.length_set]; exact HY.out, R1.out, B1.out⟩
          case measure => simp [intOf]; omega
        · clear RW3 B3 RW
          go_wp2_with fail
          go_loopw [83] (fun i wr => RdRel y2 o i wr) (fun i _ => o - (intOf i).toNat)
          case atStart => exact ⟨0, Nat.zero_le _, rfl, BY.out⟩
          case round =>
            clear BY
            obtain ⟨q, hq, rfl, hbel⟩ := hrel
            have BQ := Lib.hid hbel
            clear hbel
            by_cases hlt2 : q < o
            · have RQ := Lib.hid (RY2.out.below BQ.out)
              have W1 := Lib.hid (wait_ran RQ.out INV.out h4 q hlt2 (by omega))
              have hwl := wIds_len st.fs q
              obtain ⟨wo, rfl⟩ : ∃ wo : World, wo = wr := ⟨_, rfl⟩
              go_wp2_with fail
              refine W1.out.mono ?_
              rintro e z1 ⟨v4, rfl, hr4, hb4⟩
              obtain ⟨aw, cw, rfl, hrest⟩ := hr4
              have RW4 : Hid (Rw (Value.int .i64) 3 z1 wo.heap.size (.slice aw (wIds st.fs q).length cw) (wIds st.fs q)) := ⟨aw, cw, rfl, hrest⟩
              have B4 := Lib.hid hb4
              clear hrest hb4 W1
              go_wp2_with fail
              go_loopw [91] (fun i wr => MkRel wo aw (wIds st.fs q).length cw i wr) (fun i _ => (wIds st.fs q).length - (intOf i).toNat)
              case atStart => exact ⟨0, wIds st.fs q, Nat.zero_le _, rfl, rfl, RW4.out, B4.out⟩
              case round =>
                obtain ⟨k, ys, hk, rfl, hyl, hrw, hbel⟩ := hrel
                have HY := Lib.hid hyl; have RW := Lib.hid hrw; have BY := Lib.hid hbel
                clear hyl hrw hbel
                by_cases hlt : k < (wIds st.fs q).length
                · obtain ⟨z, ez, okz, cz⟩ := (Rw.sl RW.out).get (k := k) (by rw [HY.out]; exact hlt)
                  obtain ⟨r1, r2, r3⟩ := Rw.set RW.out (k := k) (by rw [HY.out]; exact hlt) (-9)
                  have R1 := Lib.hid r1; have R2 := Lib.hid r2
                  have B1 := Lib.hid (BY.out.setCell r2 (.int .i64 (-9)))
                  clear r1 r2 ez
                  go_wp2_with fail
                  go_roundw
                  case rel => exact ⟨k + 1, ys.set k (-9), by omega, by go_num, by rw [List.length_set]; exact HY.out, R1.out, B1.out⟩
                  case measure => simp [intOf]; omega
                · clear RW4 B4 RW
                  have BZ := Lib.hid (BQ.out.trans (BY.out.mono BQ.out.size))
                  have W2 := Lib.hid (wait_ran (RY2.out.below BZ.out) INV.out h4 q hlt2 (by omega))
                  go_wp2_with fail
                  refine W2.out.mono ?_
                  rintro e z2 ⟨v5, rfl, hr5, hb5⟩
                  obtain ⟨a5, c5, rfl, hrest⟩ := hr5
                  have C := Lib.hid (containsInt_any z2 a5 c5 (wIds st.fs q) (-9) (Rw.sl (⟨a5, c5, rfl, hrest⟩ : Rw (Value.int .i64) 3 z2 wr.heap.size _ _)) (by unfold maxLen; omega))
                  have BZ2 := Lib.hid (BZ.out.trans (hb5.mono BZ.out.size))
                  have hno := wIds_neg (fs := st.fs) (k := q) (fun x hx => (INV.out.ids x hx).1)
                  have hd : decide ((-9 : Int) ∈ wIds st.fs q) = false := by simpa using hno
                  clear hrest hb5 W2 hno
                  rw [hd] at C
                  go_wp2_with fail
                  refine C.out.mono ?_
                  rintro e z3 ⟨rfl, rfl⟩
                  clear hd C
                  go_wp2_with fail
                  go_roundw
                  case rel => exact ⟨q + 1, by omega, by go_num, BZ2.out⟩
                  case measure => simp [intOf]; omega
            · have RQ := Lib.hid (RY2.out.below BQ.out)
              have H5 := Lib.hid (held_ran RQ.out INV.out h4)
              have hff : (st.freed == st.freed) = true := by simp
              go_wp2_with fail
              refine H5.out.mono ?_
              rintro e z1 ⟨v4, rfl, hr4, hb4⟩
              obtain ⟨a5, c5, rfl, hrest⟩ := hr4
              have BZ := Lib.hid (BQ.out.trans (hb4.mono BQ.out.size))
              have E := Lib.hid (equalInt_same z1 a5 ah c5 ch (hIds st.fs) (Rw.sl (⟨a5, c5, rfl, hrest⟩ : Rw (Value.int .i64) 3 z1 wr.heap.size _ _)) ((SH2.out.below BQ.out).below hb4) (by unfold maxLen; omega))
              clear hrest hb4 H5
              go_wp2_with fail
              refine E.out.mono ?_
              rintro e z2 ⟨rfl, qq⟩
              have BZ2 := Lib.hid (BZ.out.trans (qq.below _))
              have FR2 := Lib.hid (freed_ran (RY2.out.below BZ2.out))
              clear qq
              go_wp2_with fail
              refine FR2.out.mono ?_
              rintro e z3 ⟨rfl, rfl⟩
              go_wp2_with fail
              go_ret
              exact ⟨rfl, BB.out.trans ((RY2.out.below BZ2.out).bel.mono BB.out.size)⟩
    · have hnb : ((rdy.length : Int) != (o : Int)) = true := by rw [bne_iff_ne]; omega
      have SW2 := Lib.hid (SW.out hro)
      clear hro SW
      go_wp2_with fail
      refine SW2.out.mono ?_
      rintro e x2 ⟨rfl, rfl⟩
      go_wp2_with fail
      refine SI.out.mono ?_
      rintro e y1 ⟨rfl, hx, hran, hU, hw0⟩
      clear hnb hmk
      generalize x1.alloc (.cells LB.toArray 4) = x3 at *
      have RY := Lib.hid hran
      have SHy : Hid (SlI y1 ah (hIds st.fs)) := SHa.out.upd hU (fun hne hin => by
        have h2 := HBS.out hne
        have h3 := hin.2
        omega)
      have BY0 : Hid (Below wb.heap.size wb y1) := hran.bel
      have CN := Lib.hid (cont_neg y1 (some ⟨x3.heap.size, 0, none⟩) o o (Blk.sl hx) (by omega))
      clear hran hU hx SI hw0
      go_wp2_with fail
      refine CN.out.mono ?_
      rintro e y2 ⟨rfl, hb⟩
      have RY2 := Lib.hid (RY.out.below hb)
      have SH2 := Lib.hid (SHy.out.below hb)
      clear hb CN
      have H2 := Lib.hid (held_ran RY2.out INV.out h4)
      go_wp2_with fail
      refine H2.out.mono ?_
      rintro e y3 ⟨v3, rfl, hr3, hb3⟩
      obtain ⟨ac, cc, rfl, hrest⟩ := hr3
      have RW3 : Hid (Rw (Value.int .i64) 3 y3 y2.heap.size (.slice ac (hIds st.fs).length cc) (hIds st.fs)) := ⟨ac, cc, rfl, hrest⟩
      have B3 := Lib.hid hb3
      clear hrest hb3 H2
      go_wp2_with fail
      go_loopw [75] (fun i wr => MkRel y2 ac (hIds st.fs).length cc i wr) (fun i _ => (hIds st.fs).length - (intOf i).toNat)
      case atStart => exact ⟨0, hIds st.fs, Nat.zero_le _, rfl, rfl, RW3.out, B3.out⟩
      case round =>
        obtain ⟨k, ys, hk, rfl, hyl, hrw, hbel⟩ := hrel
        have HY := Lib.hid hyl; have RW := Lib.hid hrw; have BY := Lib.hid hbel
        clear hyl hrw hbel
        by_cases hlt : k < (hIds st.fs).length
        · obtain ⟨z, ez, okz, cz⟩ := (Rw.sl RW.out).get (k := k) (by rw [HY.out]; exact hlt)
          obtain ⟨r1, r2, r3⟩ := Rw.set RW.out (k := k) (by rw [HY.out]; exact hlt) (-9)
          have R1 := Lib.hid r1; have R2 := Lib.hid r2
          have B1 := Lib.hid (BY.out.setCell r2 (.int .i64 (-9)))
          clear r1 r2 ez
          go_wp2_with fail
          go_roundw
          case rel => exact ⟨k + 1, ys.set k (-9), by omega, by go_num, by rw [List.length_set]; exact HY.out, R1.out, B1.out⟩
          case measure => simp [intOf]; omega
        · clear RW3 B3 RW
          go_wp2_with fail
          go_loopw [83] (fun i wr => RdRel y2 o i wr) (fun i _ => o - (intOf i).toNat)
          case atStart => exact ⟨0, Nat.zero_le _, rfl, BY.out⟩
          case round =>
            clear BY
            obtain ⟨q, hq, rfl, hbel⟩ := hrel
            have BQ := Lib.hid hbel
            clear hbel
            by_cases hlt2 : q < o
            · have RQ := Lib.hid (RY2.out.below BQ.out)
              have W1 := Lib.hid (wait_ran RQ.out INV.out h4 q hlt2 (by omega))
              have hwl := wIds_len st.fs q
              obtain ⟨wo, rfl⟩ : ∃ wo : World, wo = wr := ⟨_, rfl⟩
              go_wp2_with fail
              refine W1.out.mono ?_
              rintro e z1 ⟨v4, rfl, hr4, hb4⟩
              obtain ⟨aw, cw, rfl, hrest⟩ := hr4
              have RW4 : Hid (Rw (Value.int .i64) 3 z1 wo.heap.size (.slice aw (wIds st.fs q).length cw) (wIds st.fs q)) := ⟨aw, cw, rfl, hrest⟩
              have B4 := Lib.hid hb4
              clear hrest hb4 W1
              go_wp2_with fail
              go_loopw [91] (fun i wr => MkRel wo aw (wIds st.fs q).length cw i wr) (fun i _ => (wIds st.fs q).length - (intOf i).toNat)
              case atStart => exact ⟨0, wIds st.fs q, Nat.zero_le _, rfl, rfl, RW4.out, B4.out⟩
              case round =>
                obtain ⟨k, ys, hk, rfl, hyl, hrw, hbel⟩ := hrel
                have HY := Lib.hid hyl; have RW := Lib.hid hrw; have BY := Lib.hid hbel
                clear hyl hrw hbel
                by_cases hlt : k < (wIds st.fs q).length
                · obtain ⟨z, ez, okz, cz⟩ := (Rw.sl RW.out).get (k := k) (by rw [HY.out]; exact hlt)
                  obtain ⟨r1, r2, r3⟩ := Rw.set RW.out (k := k) (by rw [HY.out]; exact hlt) (-9)
                  have R1 := Lib.hid r1; have R2 := Lib.hid r2
                  have B1 := Lib.hid (BY.out.setCell r2 (.int .i64 (-9)))
                  clear r1 r2 ez
                  go_wp2_with fail
                  go_roundw
                  case rel => exact ⟨k + 1, ys.set k (-9), by omega, by go_num, by rw [List.length_set]; exact HY.out, R1.out, B1.out⟩
                  case measure => simp [intOf]; omega
                · clear RW4 B4 RW
                  have BZ := Lib.hid (BQ.out.trans (BY.out.mono BQ.out.size))
                  have W2 := Lib.hid (wait_ran (RY2.out.below BZ.out) INV.out h4 q hlt2 (by omega))
                  go_wp2_with fail
                  refine W2.out.mono ?_
                  rintro e z2 ⟨v5, rfl, hr5, hb5⟩
                  obtain ⟨a5, c5, rfl, hrest⟩ := hr5
                  have C := Lib.hid (containsInt_any z2 a5 c5 (wIds st.fs q) (-9) (Rw.sl (⟨a5, c5, rfl, hrest⟩ : Rw (Value.int .i64) 3 z2 wr.heap.size _ _)) (by unfold maxLen; omega))
                  have BZ2 := Lib.hid (BZ.out.trans (hb5.mono BZ.out.size))
                  have hno := wIds_neg (fs := st.fs) (k := q) (fun x hx => (INV.out.ids x hx).1)
                  have hd : decide ((-9 : Int) ∈ wIds st.fs q) = false := by simpa using hno
                  clear hrest hb5 W2 hno
                  rw [hd] at C
                  go_wp2_with fail
                  refine C.out.mono ?_
                  rintro e z3 ⟨rfl, rfl⟩
                  clear hd C
                  go_wp2_with fail
                  go_roundw
                  case rel => exact ⟨q + 1, by omega, by go_num, BZ2.out⟩
                  case measure => simp [intOf]; omega
            · have RQ := Lib.hid (RY2.out.below BQ.out)
              have H5 := Lib.hid (held_ran RQ.out INV.out h4)
              have hff : (st.freed == st.freed) = true := by simp
              go_wp2_with fail
              refine H5.out.mono ?_
              rintro e z1 ⟨v4, rfl, hr4, hb4⟩
              obtain ⟨a5, c5, rfl, hrest⟩ := hr4
              have BZ := Lib.hid (BQ.out.trans (hb4.mono BQ.out.size))
              have E := Lib.hid (equalInt_same z1 a5 ah c5 ch (hIds st.fs) (Rw.sl (⟨a5, c5, rfl, hrest⟩ : Rw (Value.int .i64) 3 z1 wr.heap.size _ _)) ((SH2.out.below BQ.out).below hb4) (by unfold maxLen; omega))
              clear hrest hb4 H5
              go_wp2_with fail
              refine E.out.mono ?_
              rintro e z2 ⟨rfl, qq⟩
              have BZ2 := Lib.hid (BZ.out.trans (qq.below _))
              have FR2 := Lib.hid (freed_ran (RY2.out.below BZ2.out))
              clear qq
              go_wp2_with fail
              refine FR2.out.mono ?_
              rintro e z3 ⟨rfl, rfl⟩
              go_wp2_with fail
              go_ret
              exact ⟨rfl, BB.out.trans ((RY2.out.below BZ2.out).bel.mono BB.out.size)⟩
end Go.Proofs.Yteomiofmaopkhaa
