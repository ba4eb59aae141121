/-
  The walk of the law BranchPlays.
-/
import Derived.Test.YteomiofmaopkhaaPlayM
namespace Go.Proofs.Yteomiofmaopkhaa
open Go.RowKit
set_option linter.unusedVariables false

theorem rWait_out {o : Nat} {rs : List RF} (h : ∀ y ∈ rs.map ab, ∀ z ∈ y.2, 0 ≤ z ∧ z < (o : Int)) {k : Int} (hk : k < 0 ∨ (o : Int) ≤ k) : rWait rs k = [] := by
  unfold rWait
  have : rs.filter (fun r => decide (k ∈ r.l)) = [] := by
    rw [List.filter_eq_nil_iff]
    intro r hr hm
    have := h (ab r) (List.mem_map.2 ⟨r, hr, rfl⟩) k (of_decide_eq_true hm)
    omega
  rw [this]; rfl
theorem rWait_ab (rs : List RF) (k : Int) : rWait rs k = ((rs.map ab).filter (fun y => decide (k ∈ y.2))).map (·.1) := by
  unfold rWait
  rw [List.filter_map, List.map_map]
  rfl
theorem PL.drew {w0 w : World} {b rb o bx : Nat} {room : Int} {fs : List Fr} {freed : Int} {ys : List AF} {fr2 : Int} {xv : List Value} (h : PL w0 b rb o room fs freed ys fr2 bx xv w) : PL w0 b rb o room fs freed ys fr2 bx xv w.drew := h.qt ((Qt.refl w).drew)
theorem PL.s3 {w0 w : World} {b rb o bx : Nat} {room : Int} {fs : List Fr} {freed : Int} {ys : List AF} {fr2 : Int} {xv : List Value} (h : PL w0 b rb o room fs freed ys fr2 bx xv w) : w.cell? ⟨rb, 3, none⟩ = some (.int .i64 fr2) ∧ PL w0 b rb o room fs freed ys fr2 bx xv w := by
  obtain ⟨v, v2, rs, hF, hR, e⟩ := h.ex
  exact ⟨hR.hb.cell (i := 3) rfl, h⟩
theorem PL.sx {w0 w : World} {b rb o bx : Nat} {room : Int} {fs : List Fr} {freed : Int} {ys : List AF} {fr2 : Int} {u0 u1 u2 : Value} (h : PL w0 b rb o room fs freed ys fr2 bx [u0, u1, u2] w) : w.cell? ⟨bx, 0, none⟩ = some u0 ∧ w.cell? ⟨bx, 1, none⟩ = some u1 := ⟨h.hx.cell (i := 0) rfl, h.hx.cell (i := 1) rfl⟩
def PwRel (w0 : World) (b rb o : Nat) (room : Int) (fs : List Fr) (freed : Int) (ys : List AF) (bx : Nat) (xv : List Value) (i : Value) (w : World) : Prop :=
  ∃ j : Nat, j ≤ o + 2 ∧ i = .int .i64 ((j : Int) - 1) ∧ PL w0 b rb o room fs freed ys freed bx xv w
def PmRel (w0 : World) (b rb o : Nat) (room : Int) (n : Nat) (i : Value) (w : World) : Prop :=
  ∃ (k : Nat) (fs : List Fr) (freed : Int) (ys : List AF), k ≤ n ∧ i = .int .i64 k ∧ PlP o room k fs freed ys ∧ ∃ v v2 rs, FkAt w w0.heap.size b o room v fs freed ∧ RfAt w w0.heap.size rb o room v2 rs freed ∧ rs.map ab = ys ∧ Below w0.heap.size w0 w
/-- What waits at an output, for both. -/
theorem wait_both {w0 w : World} {b rb o n bx : Nat} {room : Int} {fs : List Fr} {freed : Int} {ys : List AF} {xv : List Value} (h : PL w0 b rb o room fs freed ys freed bx xv w) (hp : PlP o room n fs freed ys) (ho : o ≤ 8) (h64 : room ≤ 64) (k : Int) (hk0 : -1 ≤ k) (hk1 : k ≤ o) :
    ∃ L : List Int, L.length ≤ 1000 ∧ Calls Try.prog 25 #[.pointer (some ⟨b, 0, none⟩), .int .i64 k] w (RwPost (.int .i64) 3 w L) ∧
      ∀ w', Below w.heap.size w w' → Calls Try.prog 26 #[.pointer (some ⟨rb, 0, none⟩), .int .i64 k] w' (RwPost (.int .i64) 3 w' L) := by
  obtain ⟨v, v2, rs, hF, hR, e⟩ := h.ex
  subst e
  have hfr := hp.fr
  have hlen : fs.length = rs.length := by simpa using hp.co.len
  have href : ∀ w', Below w.heap.size w w' → Calls Try.prog 26 #[.pointer (some ⟨rb, 0, none⟩), .int .i64 k] w' (RwPost (.int .i64) 3 w' (rWait rs k)) := fun w' q =>
    refWait_any w' _ rb o room v2 rs freed (hR.below q) (by omega) (fun r hr => Nat.le_trans (hp.ln (ab r) (List.mem_map.2 ⟨r, hr, rfl⟩)) (by omega)) k
  have hrl : (rWait rs k).length ≤ 1000 := by
    unfold rWait
    rw [List.length_map]
    exact Nat.le_trans (List.length_filter_le _ _) (by omega)
  refine ⟨rWait rs k, hrl, ?_, href⟩
  by_cases hin : 0 ≤ k ∧ k < o
  · obtain ⟨q, rfl⟩ : ∃ q : Nat, k = q := ⟨k.toNat, by omega⟩
    have e : wIds fs q = rWait rs q := by rw [hp.co.wait (by omega), rWait_ab]
    rw [← e]
    exact wait_any w _ b o room v fs freed hF (by omega) q (by omega) (by omega) hp.co.b8
  · rw [rWait_out hp.rng (by omega)]
    refine (wait_out w _ b o room v fs freed hF k (by omega)).mono ?_
    rintro e w' ⟨rfl, rfl⟩
    exact ⟨_, rfl, Rw.nil _ _ _ _, Below.refl _ _⟩

theorem held_both {w0 w : World} {b rb o n bx : Nat} {room : Int} {fs : List Fr} {freed : Int} {ys : List AF} {fr2 : Int} {xv : List Value} (h : PL w0 b rb o room fs freed ys fr2 bx xv w) (hp : PlP o room n fs freed ys) (h64 : room ≤ 64) :
    ∃ L : List Int, L.length ≤ 1000 ∧ (∀ w, PL w0 b rb o room fs freed ys fr2 bx xv w → Calls Try.prog 22 #[.pointer (some ⟨b, 0, none⟩)] w (RwPost (.int .i64) 3 w L)) ∧
      ∀ w, PL w0 b rb o room fs freed ys fr2 bx xv w → Calls Try.prog 23 #[.pointer (some ⟨rb, 0, none⟩)] w (RwPost (.int .i64) 3 w L) := by
  have hfr := hp.fr
  refine ⟨hIds fs, by unfold hIds; rw [List.length_map]; omega, fun w h => ?_, fun w h => ?_⟩
  · obtain ⟨v, v2, rs, hF, hR, e⟩ := h.ex
    exact held_any w _ b o room v fs freed hF (by omega)
  · obtain ⟨v, v2, rs, hF, hR, e⟩ := h.ex
    subst e
    have hlen : fs.length = rs.length := by simpa using hp.co.len
    have e : hIds fs = rIds rs := by rw [hp.co.ids]; unfold rIds; rw [List.map_map]; rfl
    rw [e]
    exact refHeld_any w _ rb o room v2 rs fr2 hR (by omega)
set_option maxHeartbeats 16000000 in
set_option maxRecDepth 100000 in
theorem branchPlays_walk (W : World) (n : Int) (w0 : (Lit.int .i64 n).wf = true) (room : Int) (w1 : (Lit.int .i64 room).wf = true) (a2 : Option Addr) (c2 : Nat) (xs : List OpR) (s2 : SlOp W a2 xs) (g2 : ∀ x ∈ xs, OpOk W x) (m2 : xs.length ≤ maxLen) :
    Calls Try.prog 4 #[.int .i64 n, .int .i64 room, .slice a2 xs.length c2] W fun e W' => e = .returned (.bool true) ∧ Below W.heap.size W W' := by
  have HAW := Lib.hid (awake_ok W)
  have S := Lib.hid s2; have G := Lib.hid g2; have M := Lib.hid m2
  clear s2 g2 w0 w1 m2
  go_enter Try.func4, Try.ntmps4
  go_wp2_with fail
  refine HAW.out.mono ?_
  rintro e wa ⟨rfl, hb⟩
  have BA := Lib.hid hb; clear hb
  have S1 := Lib.hid (S.out.below BA.out)
  have G1 : Hid (∀ x ∈ xs, OpOk wa x) := fun x hx => (G.out x hx).below BA.out
  have GR := Lib.hid (great_any wa a2 c2 xs S1.out G1.out M.out)
  go_wp2_with fail
  refine GR.out.mono ?_
  rintro e wb ⟨rfl, hb⟩
  have BB := Lib.hid (BA.out.trans (hb.mono BA.out.size))
  have S2 := Lib.hid (S1.out.below hb)
  have G2 : Hid (∀ x ∈ xs, OpOk wb x) := fun x hx => (G1.out x hx).below hb
  clear hb
  cases hf : isGreat xs with
  | true =>
    clear hf
    go_wp2_with fail
    go_ret
    exact ⟨rfl, BB.out⟩
  | false =>
    have hgr : xs.length ≤ 200 ∧ ∀ x ∈ xs, x.outs.length ≤ 12 ∧ x.rdy.length ≤ 12 := by
      unfold isGreat at hf
      simp only [Bool.or_eq_false_iff, decide_eq_false_iff_not, List.any_eq_false] at hf
      refine ⟨by omega, fun x hx => ?_⟩
      have := hf.1 x hx
      unfold opBig at this
      simp at this
      exact this
    obtain ⟨h5, h6⟩ := hgr
    have H12 := Lib.hid h6
    clear hf h6
    by_cases hbad : n < 1 ∨ (¬ n < 1 ∧ 8 < n) ∨ (¬ n < 1 ∧ ¬ 8 < n ∧ room < 1) ∨ (¬ n < 1 ∧ ¬ 8 < n ∧ ¬ room < 1 ∧ 64 < room)
    · have NB := Lib.hid (newF_bad n room wb hbad)
      rcases hbad with hb | ⟨hb1, hb2⟩ | ⟨hb1, hb2, hb3⟩ | ⟨hb1, hb2, hb3, hb4⟩
      all_goals
        go_wp2_with fail
        refine NB.out.mono ?_
        rintro e wc ⟨rfl, rfl⟩
        go_wp2_with fail
        go_ret
        exact ⟨rfl, BB.out⟩
    · have k1 : ¬ n < 1 := by omega
      have k2 : ¬ 8 < n := by omega
      have k3 : ¬ room < 1 := by omega
      have k4 : ¬ 64 < room := by omega
      have NO := Lib.hid (newF_ok n room wb (by omega) (by omega) (by omega) (by omega))
      clear hbad
      go_wp2_with fail
      refine NO.out.mono ?_
      rintro e wc ⟨rfl, hF, hB, hz⟩
      obtain ⟨o, rfl⟩ : ∃ o : Nat, n = o := ⟨n.toNat, by omega⟩
      have HF := Lib.hid hF; have HB := Lib.hid hB; have HZ := Lib.hid hz
      clear hF hB hz
      have R0 : Hid (PmRel wb wb.heap.size wc.heap.size o room xs.length (.int .i64 ((0 : Nat) : Int)) (wc.alloc (.cells #[.int .i64 o, .int .i64 room, .slice none 0 0, .int .i64 0] 42))) := by
        have q := (Below.refl wc.heap.size wc).alloc (Nat.le_refl _) (.cells #[.int .i64 o, .int .i64 room, .slice none 0 0, .int .i64 0] 42)
        refine ⟨0, [], 0, [], Nat.zero_le _, rfl, ⟨trivial, by simp; omega, by omega, by simp, by simp, by simp⟩, _, .slice none 0 0, [], HF.out.below q, ⟨Blk.new wc _ [.int .i64 o, .int .i64 room, .slice none 0 0, .int .i64 0], ⟨by simp [crs], .inl ⟨rfl, by simp [crs]⟩⟩, by simp, HB.out.size⟩, rfl, HB.out.trans (q.mono HB.out.size)⟩
      generalize hbb : wb.heap.size = b at *
      have HBB := Lib.hid hbb; clear hbb
      go_wp2_with fail
      generalize wc.heap.size = rb at *
      go_loopw [56] (fun i w => PmRel wb b rb o room xs.length i w) (fun i _ => xs.length - (intOf i).toNat)
      case atStart => exact R0.out
      case round =>
        obtain ⟨k, fs, freed, ys, hk, rfl, hpp, v, v2, rs, hF, hR, hys, hbel⟩ := hrel
        have PP := Lib.hid hpp
        have FK := Lib.hid hF; have RF := Lib.hid hR; have YS := Lib.hid hys; have BW := Lib.hid hbel
        have k4' : room ≤ 64 := by omega
        clear hpp hF hR hys hbel R0
        by_cases hlt : k < xs.length
        · obtain ⟨x, ex, okx, q0, q1, q2⟩ := (S2.out.below BW.out).get (k := k) hlt
          obtain ⟨x1, x2⟩ := H12.out x (List.mem_of_getElem? ex.out)
          have OKX := Lib.hid (G2.out x (List.mem_of_getElem? ex.out))
          obtain ⟨xid, oa, oc, outs, ra, rc, rdy⟩ := x
          dsimp only at q0 q1 q2 x1 x2
          have PL0 : Hid (PL wb b rb o room fs freed ys freed wr.heap.size [.int .i64 xid, .slice oa outs.length oc, .slice ra rdy.length rc] (wr.alloc (.cells #[.int .i64 xid, .slice oa outs.length oc, .slice ra rdy.length rc] 28))) := by
            have q := (Below.refl wr.heap.size wr).alloc (Nat.le_refl _) (.cells #[.int .i64 xid, .slice oa outs.length oc, .slice ra rdy.length rc] 28)
            exact ⟨⟨v, v2, rs, FK.out.below q, RF.out.below q, YS.out⟩, Blk.new wr _ [.int .i64 xid, .slice oa outs.length oc, .slice ra rdy.length rc], BW.out.trans (q.mono BW.out.size)⟩
          clear ex
          have SO := Lib.hid OKX.out.1; have SR := Lib.hid OKX.out.2.2.1
          clear FK RF YS OKX
          have hbs := BW.out.size
          generalize hno : outs.length = no at *
          generalize hnr : rdy.length = nr at *
          have HNO := Lib.hid hno; have HNR := Lib.hid hnr
          clear hno hnr
          by_cases hput : 0 < no
          · have P1 : Hid (∀ w, Qt (wr.alloc (.cells #[.int .i64 xid, .slice oa no oc, .slice ra nr rc] 28)) w → Calls Try.prog 18 #[.pointer (some ⟨b, 0, none⟩), .int .i64 xid, .slice oa no oc] w (PlBPut wb b rb o room fs freed ys freed wr.heap.size [.int .i64 xid, .slice oa no oc, .slice ra nr rc] xid outs)) := fun w q => by
              have h := PL0.out.qt q
              have := pl_bput h PP.out (by omega) k4' xid oa oc outs (SO.out.below h.bel) (by rw [HNO.out]; omega) (by rw [HNO.out]; omega)
              rw [HNO.out] at this
              exact this
            have hyl := PP.out.co.len
            have hfr := PP.out.fr
            have P2 : Hid (∀ w, PL wb b rb o room (putC o room fs xid outs).2 freed ys freed wr.heap.size [.int .i64 xid, .slice oa no oc, .slice ra nr rc] w → Calls Try.prog 19 #[.pointer (some ⟨rb, 0, none⟩), .int .i64 xid, .slice oa no oc] w (fun e w' => e = .returned (.int .i64 (putC o room fs xid outs).1) ∧ PL wb b rb o room (putC o room fs xid outs).2 freed (aPut o room ys xid outs).2 freed wr.heap.size [.int .i64 xid, .slice oa no oc, .slice ra nr rc] w')) := fun w h => by
              have := pl_rput h (by omega) xid oa oc outs (SO.out.below h.bel) (by rw [HNO.out]; omega) (by rw [HNO.out]; omega)
              rw [HNO.out] at this
              rw [put_same PP.out (by omega)]
              exact this
            have PPz := Lib.hid (PP.out.put (by omega) xid outs (by rw [HNO.out]; exact x1))
            have P1' : Hid (∀ w, Qt (wr.alloc (.cells #[.int .i64 xid, .slice oa no oc, .slice ra nr rc] 28)) w → Calls Try.prog 18 #[.pointer (some ⟨b, 0, none⟩), .int .i64 xid, .slice oa no oc] w (fun e w' => e = .returned (.int .i64 (putC o room fs xid outs).1) ∧ PL wb b rb o room (putC o room fs xid outs).2 freed ys freed wr.heap.size [.int .i64 xid, .slice oa no oc, .slice ra nr rc] w')) := fun w q => P1.out w q
            generalize (putC o room fs xid outs).2 = FS at *
            generalize (aPut o room ys xid outs).2 = YS at *
            generalize hC : (putC o room fs xid outs).1 = CC at *
            have hcc : (CC != CC) = false := by simp
            clear P1 hC hyl hfr
            have PZ0 := PL0.out
            obtain ⟨s0, s1⟩ := PZ0.sx
            have bl := PZ0.hx.lt
            go_wp2_with fail
            go_region_held3 (fun w' => w'.cell? ⟨wr.heap.size, 0, none⟩ = some (.int .i64 xid) ∧ w'.cell? ⟨wr.heap.size, 1, none⟩ = some (.slice oa no oc))
              ((go_split_ands; first | exact PL.sx (by assumption) | exact (PL.drew (by assumption)).sx | go_keep))
              (first
                | (go_at_call 18; go_split_ands; refine (P1'.out _ (Qt.refl _).drew).mono ?_; rintro e w5 ⟨rfl, hP5⟩)
                | (go_at_call 19; go_split_ands; refine (P2.out _ (by assumption)).mono ?_; rintro e w6 ⟨rfl, hP6⟩))
            have PLz := Lib.hid hP6
            clear hP6 hP5 s0 s1 PZ0 P1' P2 hcc
            rename_i hHeld1
            clear hHeld1
            clear PL0
            obtain ⟨wz, rfl⟩ : ∃ wz : World, wz = w6 := ⟨_, rfl⟩
            obtain ⟨bx, hbx⟩ : ∃ bx, bx = wr.heap.size := ⟨_, rfl⟩
            rw [← hbx] at PLz
            generalize [Value.int .i64 xid, .slice oa no oc, .slice ra nr rc] = xv at *
            clear hbx
            obtain ⟨wo, rfl⟩ : ∃ wo : World, wo = wr := ⟨_, rfl⟩
            obtain ⟨L, hLl, hHE, hHR⟩ := held_both PLz.out PPz.out k4'
            have HE := Lib.hid hHE; have HR := Lib.hid hHR
            have FR : Hid (∀ w, PL wb b rb o room FS freed YS freed bx xv w → Calls Try.prog 24 #[.pointer (some ⟨b, 0, none⟩)] w fun e w' => e = .returned (.int .i64 freed) ∧ w = w') := fun w h => by
              obtain ⟨v, v2, rs, hF, _⟩ := h.ex
              exact freed_any w _ b o room v _ _ hF
            have EQ : Hid (∀ w a1 c1 a2 c2, SlI w a1 L → SlI w a2 L → Calls Try.prog 15 #[.slice a1 L.length c1, .slice a2 L.length c2] w fun e w' => e = .returned (.bool true) ∧ Qt w w') := fun w a1 c1 a2 c2 h1 h2 => equalInt_same w a1 a2 c1 c2 L h1 h2 (by unfold maxLen; omega)
            have hff : (freed != freed) = false := by simp
            have PZ := PLz.out
            have PZs := PZ.s3.1
            have hrbl : rb < wz.heap.size := by obtain ⟨v, v2, rs, _, hR2, _⟩ := PZ.ex; exact hR2.hb.lt
            clear hHE hHR
            go_wp2_with fail
            go_region_held3 (fun w' => w'.cell? ⟨rb, 3, none⟩ = some (.int .i64 freed) ∧ PL wb b rb o room FS freed YS freed bx xv w')
              ((go_split_ands; first | exact (PL.drew (by assumption)).s3 | exact (PL.below (by assumption) (by assumption)).s3 | exact PL.s3 (by assumption) | go_keep))
              (first
                | (go_at_call 22; go_split_ands; refine (HE.out _ (PL.below (by assumption) (Below.refl _ _))).mono ?_; rintro e wA ⟨vA, rfl, hv, hb⟩; obtain ⟨aA, cA, rfl, hv'⟩ := hv; have hslA : SlI wA aA L := Rw.sl ⟨aA, cA, rfl, hv'⟩; clear hv')
                | (go_at_call 23; go_split_ands; refine (HR.out _ (PL.below (by assumption) (Below.refl _ _))).mono ?_; rintro e wB ⟨vB, rfl, hv, hb⟩; obtain ⟨aB, cB, rfl, hv'⟩ := hv; have hslB : SlI wB aB L := Rw.sl ⟨aB, cB, rfl, hv'⟩; have hslA2 := hslA.below hb; clear hv' hslA)
                | (go_at_call 15; go_split_ands; refine (EQ.out _ _ _ _ _ (by assumption) (by assumption)).mono ?_; rintro e wC ⟨rfl, hq⟩; have hb := hq.bel)
                | (go_at_call 24; go_split_ands; refine (FR.out _ (PL.below (by assumption) (Below.refl _ _))).mono ?_; rintro e wD ⟨rfl, rfl⟩))
            rename_i hHeld
            have PL1 := Lib.hid hHeld.2
            clear hHeld PZ PZs hff HE HR FR EQ hslA2 hslB hb hq
            go_wp2_with fail
            go_loopw [14] (fun i w => PwRel wb b rb o room FS freed YS bx xv i w) (fun i _ => ((o : Int) + 1 - intOf i).toNat)
            case atStart => exact ⟨0, by omega, rfl, PL1.out⟩
            case round =>
              obtain ⟨q, hq, rfl, hP⟩ := hrel
              have PQ := Lib.hid hP
              clear hP PL1
              by_cases hql : q < o + 2
              · obtain ⟨L2, hL2, hW1, hW2⟩ := wait_both PQ.out PPz.out (by omega) k4' ((q : Int) - 1) (by omega) (by omega)
                have WA := Lib.hid hW1; have WB := Lib.hid hW2
                clear hW1 hW2
                have hqle : (q : Int) - 1 ≤ (o : Int) := by omega
                have hq1 : -1 ≤ (q : Int) - 1 := by omega
                have hq2 : (q : Int) - 1 ≤ 8 := by omega
                generalize hqe : (q : Int) - 1 = qi at *
                have HQE := Lib.hid hqe; clear hqe
                go_wp2_with fail
                refine WA.out.mono ?_
                rintro e y1 ⟨v1, rfl, hr1, hb1⟩
                obtain ⟨a1', c1', rfl, hrest1⟩ := hr1
                have S1y : Hid (SlI y1 a1' L2) := Rw.sl (⟨a1', c1', rfl, hrest1⟩ : Rw (Value.int .i64) 3 y1 _ _ _)
                have B1y := Lib.hid hb1
                clear hrest1 hb1 WA
                go_wp2_with fail
                refine (WB.out _ B1y.out).mono ?_
                rintro e y2 ⟨v2', rfl, hr2, hb2⟩
                obtain ⟨a2', c2', rfl, hrest2⟩ := hr2
                have E2 := Lib.hid (equalInt_same y2 a1' a2' c1' c2' L2 (S1y.out.below hb2) (Rw.sl (⟨a2', c2', rfl, hrest2⟩ : Rw (Value.int .i64) 3 y2 _ _ _)) (by unfold maxLen; omega))
                have P2y := Lib.hid ((PQ.out.below B1y.out).below hb2)
                clear hrest2 hb2 WB
                go_wp2_with fail
                refine E2.out.mono ?_
                rintro e y3 ⟨rfl, qq⟩
                have P3y := Lib.hid (P2y.out.qt qq)
                clear qq E2
                go_wp2_with fail
                go_roundw
                case rel => exact ⟨q + 1, by omega, congrArg (Value.int .i64) (by have := HQE.out; omega), P3y.out⟩
                case measure => have := HQE.out; simp [intOf]; omega
              · obtain rfl : q = o + 2 := by omega
                have hqle : ¬ (((o + 2 : Nat) : Int) - 1 ≤ (o : Int)) := by omega
                generalize hqe : ((o + 2 : Nat) : Int) - 1 = qi at *
                have HQE := Lib.hid hqe; clear hqe
                obtain ⟨v, v2, rs, hF9, hR9, e9⟩ := PQ.out.ex
                have F9 : Hid (PmRel wb b rb o room xs.length (.int .i64 ((k + 1 : Nat) : Int)) wr) := ⟨k + 1, _, _, _, by omega, rfl, PPz.out, v, v2, rs, hF9, hR9, e9, PQ.out.bel⟩
                clear hF9 hR9 e9
                go_wp2_with fail
                go_roundw
                case rel => have := F9.out; simpa using this
                case measure => simp [intOf]; omega
          · have hn0 : no = 0 := by omega
            subst hn0
            clear hput
            by_cases hro : nr = o
            · have hro' : o = nr := hro.symm
              clear hro
              subst hro'
              have PB := Lib.hid (pl_bstep PL0.out PP.out (by omega) (by omega) k4' (by omega) ra rc rdy (SR.out : SlB wb ra rdy) HNR.out)
              have PR : Hid (∀ w FS FD, PL wb b rb o room FS FD ys freed wr.heap.size [.int .i64 xid, .slice oa 0 oc, .slice ra o rc] w → Calls Try.prog 21 #[.pointer (some ⟨rb, 0, none⟩), .slice ra o rc] w (PlRStep wb b rb o room FS FD ys freed wr.heap.size [.int .i64 xid, .slice oa 0 oc, .slice ra o rc] rdy w)) := fun w FS FD h => pl_rstep h PP.out (by omega) (by omega) k4' (by omega) ra rc rdy (SR.out : SlB wb ra rdy) HNR.out
              have PPz := Lib.hid (PP.out.step rdy (by rw [HNR.out]; omega))
              have IDS := Lib.hid (CoL.stepAll rdy 0 (by rw [HNR.out]; omega) PP.out.co).1
              have IDL : Hid ((stepAll rdy 0 fs).1.length = o) := by show _ = _; rw [(stepAll_len _ _ _).2, HNR.out]
              have FDE : Hid (freed + ((ys.length : Int) - (aKeep (aStepAll rdy 0 ys).2).length) = freed + ((fs.length : Int) - (keepF (stepAll rdy 0 fs).2).length)) := by
                show _ = _
                rw [PP.out.co.len, ((CoL.stepAll rdy 0 (by rw [HNR.out]; omega) PP.out.co).2).keep.len]
              have s2 := PL0.out.hx.cell (i := 2) rfl
              go_wp2_with fail
              refine PB.out.mono ?_
              rintro e w5 ⟨rfl, hbk, hP5⟩
              rw [World.size_alloc] at hbk
              have P5 := Lib.hid hP5; have BK5 := Lib.hid hbk
              have s2' := hP5.hx.cell (i := 2) rfl
              clear s2 hP5 hbk PB PL0
              go_wp2_with fail
              refine (PR.out _ _ _ P5.out).mono ?_
              rintro e w6 ⟨a6, c6, rfl, hsl, hkeep, hP6⟩
              rw [← IDS.out] at hsl
              rw [FDE.out] at hP6
              have PLz0 := Lib.hid hP6
              have SA := Lib.hid (hkeep _ _ BK5.out).sl
              have SB := Lib.hid hsl
              have hids := IDL.out
              rw [show (aStepAll rdy 0 ys).1.length = o by rw [← IDS.out]; exact hids]
              have EQ0 := Lib.hid (equalInt_same w6 _ a6 o c6 (stepAll rdy 0 fs).1 SA.out SB.out (by rw [hids]; unfold maxLen; omega))
              rw [hids] at EQ0
              clear hids hsl hkeep hP6 P5 BK5 SA SB IDS IDL FDE PR s2'
              generalize keepF (stepAll rdy 0 fs).2 = FS at *
              generalize freed + ((fs.length : Int) - FS.length) = FD at *
              generalize aKeep (aStepAll rdy 0 ys).2 = YS at *
              go_wp2_with fail
              refine EQ0.out.mono ?_
              rintro e wz ⟨rfl, qz⟩
              have PLz := Lib.hid (PLz0.out.qt qz)
              clear qz EQ0 PLz0
              obtain ⟨bx, hbx⟩ : ∃ bx, bx = wr.heap.size := ⟨_, rfl⟩
              rw [← hbx] at PLz
              generalize [Value.int .i64 xid, .slice oa 0 oc, .slice ra o rc] = xv at *
              clear hbx
              obtain ⟨wo, rfl⟩ : ∃ wo : World, wo = wr := ⟨_, rfl⟩
              obtain ⟨L, hLl, hHE, hHR⟩ := held_both PLz.out PPz.out k4'
              have HE := Lib.hid hHE; have HR := Lib.hid hHR
              have FR : Hid (∀ w, PL wb b rb o room FS FD YS FD bx xv w → Calls Try.prog 24 #[.pointer (some ⟨b, 0, none⟩)] w fun e w' => e = .returned (.int .i64 FD) ∧ w = w') := fun w h => by
                obtain ⟨v, v2, rs, hF, _⟩ := h.ex
                exact freed_any w _ b o room v _ _ hF
              have EQ : Hid (∀ w a1 c1 a2 c2, SlI w a1 L → SlI w a2 L → Calls Try.prog 15 #[.slice a1 L.length c1, .slice a2 L.length c2] w fun e w' => e = .returned (.bool true) ∧ Qt w w') := fun w a1 c1 a2 c2 h1 h2 => equalInt_same w a1 a2 c1 c2 L h1 h2 (by unfold maxLen; omega)
              have hff : (FD != FD) = false := by simp
              have PZ := PLz.out
              have PZs := PZ.s3.1
              have hrbl : rb < wz.heap.size := by obtain ⟨v, v2, rs, _, hR2, _⟩ := PZ.ex; exact hR2.hb.lt
              clear hHE hHR
              go_wp2_with fail
              go_region_held3 (fun w' => w'.cell? ⟨rb, 3, none⟩ = some (.int .i64 FD) ∧ PL wb b rb o room FS FD YS FD bx xv w')
                ((go_split_ands; first | exact (PL.drew (by assumption)).s3 | exact (PL.below (by assumption) (by assumption)).s3 | exact PL.s3 (by assumption) | go_keep))
                (first
                  | (go_at_call 22; go_split_ands; refine (HE.out _ (PL.below (by assumption) (Below.refl _ _))).mono ?_; rintro e wA ⟨vA, rfl, hv, hb⟩; obtain ⟨aA, cA, rfl, hv'⟩ := hv; have hslA : SlI wA aA L := Rw.sl ⟨aA, cA, rfl, hv'⟩; clear hv')
                  | (go_at_call 23; go_split_ands; refine (HR.out _ (PL.below (by assumption) (Below.refl _ _))).mono ?_; rintro e wB ⟨vB, rfl, hv, hb⟩; obtain ⟨aB, cB, rfl, hv'⟩ := hv; have hslB : SlI wB aB L := Rw.sl ⟨aB, cB, rfl, hv'⟩; have hslA2 := hslA.below hb; clear hv' hslA)
                  | (go_at_call 15; go_split_ands; refine (EQ.out _ _ _ _ _ (by assumption) (by assumption)).mono ?_; rintro e wC ⟨rfl, hq⟩; have hb := hq.bel)
                  | (go_at_call 24; go_split_ands; refine (FR.out _ (PL.below (by assumption) (Below.refl _ _))).mono ?_; rintro e wD ⟨rfl, rfl⟩))
              rename_i hHeld
              have PL1 := Lib.hid hHeld.2
              clear hHeld PZ PZs hff HE HR FR EQ hslA2 hslB hb hq
              go_wp2_with fail
              go_loopw [14] (fun i w => PwRel wb b rb o room FS FD YS bx xv i w) (fun i _ => ((o : Int) + 1 - intOf i).toNat)
              case atStart => exact ⟨0, by omega, rfl, PL1.out⟩
              case round =>
                obtain ⟨q, hq, rfl, hP⟩ := hrel
                have PQ := Lib.hid hP
                clear hP PL1
                by_cases hql : q < o + 2
                · obtain ⟨L2, hL2, hW1, hW2⟩ := wait_both PQ.out PPz.out (by omega) k4' ((q : Int) - 1) (by omega) (by omega)
                  have WA := Lib.hid hW1; have WB := Lib.hid hW2
                  clear hW1 hW2
                  have hqle : (q : Int) - 1 ≤ (o : Int) := by omega
                  have hq1 : -1 ≤ (q : Int) - 1 := by omega
                  have hq2 : (q : Int) - 1 ≤ 8 := by omega
                  generalize hqe : (q : Int) - 1 = qi at *
                  have HQE := Lib.hid hqe; clear hqe
                  go_wp2_with fail
                  refine WA.out.mono ?_
                  rintro e y1 ⟨v1, rfl, hr1, hb1⟩
                  obtain ⟨a1', c1', rfl, hrest1⟩ := hr1
                  have S1y : Hid (SlI y1 a1' L2) := Rw.sl (⟨a1', c1', rfl, hrest1⟩ : Rw (Value.int .i64) 3 y1 _ _ _)
                  have B1y := Lib.hid hb1
                  clear hrest1 hb1 WA
                  go_wp2_with fail
                  refine (WB.out _ B1y.out).mono ?_
                  rintro e y2 ⟨v2', rfl, hr2, hb2⟩
                  obtain ⟨a2', c2', rfl, hrest2⟩ := hr2
                  have E2 := Lib.hid (equalInt_same y2 a1' a2' c1' c2' L2 (S1y.out.below hb2) (Rw.sl (⟨a2', c2', rfl, hrest2⟩ : Rw (Value.int .i64) 3 y2 _ _ _)) (by unfold maxLen; omega))
                  have P2y := Lib.hid ((PQ.out.below B1y.out).below hb2)
                  clear hrest2 hb2 WB
                  go_wp2_with fail
                  refine E2.out.mono ?_
                  rintro e y3 ⟨rfl, qq⟩
                  have P3y := Lib.hid (P2y.out.qt qq)
                  clear qq E2
                  go_wp2_with fail
                  go_roundw
                  case rel => exact ⟨q + 1, by omega, congrArg (Value.int .i64) (by have := HQE.out; omega), P3y.out⟩
                  case measure => have := HQE.out; simp [intOf]; omega
                · obtain rfl : q = o + 2 := by omega
                  have hqle : ¬ (((o + 2 : Nat) : Int) - 1 ≤ (o : Int)) := by omega
                  generalize hqe : ((o + 2 : Nat) : Int) - 1 = qi at *
                  have HQE := Lib.hid hqe; clear hqe
                  obtain ⟨v, v2, rs, hF9, hR9, e9⟩ := PQ.out.ex
                  have F9 : Hid (PmRel wb b rb o room xs.length (.int .i64 ((k + 1 : Nat) : Int)) wr) := ⟨k + 1, _, _, _, by omega, rfl, PPz.out, v, v2, rs, hF9, hR9, e9, PQ.out.bel⟩
                  clear hF9 hR9 e9
                  go_wp2_with fail
                  go_roundw
                  case rel => have := F9.out; simpa using this
                  case measure => simp [intOf]; omega
            · obtain ⟨v', v2', rs', hF9, hR9, e9⟩ := PL0.out.ex
              have SBD := Lib.hid (step_bad _ _ b o room v' fs freed hF9 ra nr rc (by omega))
              have hnb : ((nr : Int) == (o : Int)) = false := by rw [beq_eq_false_iff_ne]; omega
              have EN := Lib.hid (fun w => equalInt_same w none none 0 0 [] (fun j x h => by simp at h) (fun j x h => by simp at h) (by simp))
              have PPz : Hid (PlP o room (k + 1) fs freed ys) := ⟨PP.out.co, PP.out.fr, PP.out.f0, by have := PP.out.cnt; omega, PP.out.ln, PP.out.rng⟩
              have s2 := PL0.out.hx.cell (i := 2) rfl
              clear hF9 hR9 e9
              go_wp2_with fail
              refine SBD.out.mono ?_
              rintro e w5 ⟨rfl, rfl⟩
              go_wp2_with fail
              refine (EN.out _).mono ?_
              rintro e wz ⟨rfl, qz⟩
              have PLz := Lib.hid (PL0.out.qt qz)
              clear qz EN SBD s2 PL0
              obtain ⟨bx, hbx⟩ : ∃ bx, bx = wr.heap.size := ⟨_, rfl⟩
              rw [← hbx] at PLz
              generalize [Value.int .i64 xid, .slice oa 0 oc, .slice ra nr rc] = xv at *
              clear hbx
              obtain ⟨wo, rfl⟩ : ∃ wo : World, wo = wr := ⟨_, rfl⟩
              obtain ⟨L, hLl, hHE, hHR⟩ := held_both PLz.out PPz.out k4'
              have HE := Lib.hid hHE; have HR := Lib.hid hHR
              have FR : Hid (∀ w, PL wb b rb o room fs freed ys freed bx xv w → Calls Try.prog 24 #[.pointer (some ⟨b, 0, none⟩)] w fun e w' => e = .returned (.int .i64 freed) ∧ w = w') := fun w h => by
                obtain ⟨v, v2, rs, hF, _⟩ := h.ex
                exact freed_any w _ b o room v _ _ hF
              have EQ : Hid (∀ w a1 c1 a2 c2, SlI w a1 L → SlI w a2 L → Calls Try.prog 15 #[.slice a1 L.length c1, .slice a2 L.length c2] w fun e w' => e = .returned (.bool true) ∧ Qt w w') := fun w a1 c1 a2 c2 h1 h2 => equalInt_same w a1 a2 c1 c2 L h1 h2 (by unfold maxLen; omega)
              have hff : (freed != freed) = false := by simp
              have PZ := PLz.out
              have PZs := PZ.s3.1
              have hrbl : rb < wz.heap.size := by obtain ⟨v, v2, rs, _, hR2, _⟩ := PZ.ex; exact hR2.hb.lt
              clear hHE hHR
              go_wp2_with fail
              go_region_held3 (fun w' => w'.cell? ⟨rb, 3, none⟩ = some (.int .i64 freed) ∧ PL wb b rb o room fs freed ys freed bx xv w')
                ((go_split_ands; first | exact (PL.drew (by assumption)).s3 | exact (PL.below (by assumption) (by assumption)).s3 | exact PL.s3 (by assumption) | go_keep))
                (first
                  | (go_at_call 22; go_split_ands; refine (HE.out _ (PL.below (by assumption) (Below.refl _ _))).mono ?_; rintro e wA ⟨vA, rfl, hv, hb⟩; obtain ⟨aA, cA, rfl, hv'⟩ := hv; have hslA : SlI wA aA L := Rw.sl ⟨aA, cA, rfl, hv'⟩; clear hv')
                  | (go_at_call 23; go_split_ands; refine (HR.out _ (PL.below (by assumption) (Below.refl _ _))).mono ?_; rintro e wB ⟨vB, rfl, hv, hb⟩; obtain ⟨aB, cB, rfl, hv'⟩ := hv; have hslB : SlI wB aB L := Rw.sl ⟨aB, cB, rfl, hv'⟩; have hslA2 := hslA.below hb; clear hv' hslA)
                  | (go_at_call 15; go_split_ands; refine (EQ.out _ _ _ _ _ (by assumption) (by assumption)).mono ?_; rintro e wC ⟨rfl, hq⟩; have hb := hq.bel)
                  | (go_at_call 24; go_split_ands; refine (FR.out _ (PL.below (by assumption) (Below.refl _ _))).mono ?_; rintro e wD ⟨rfl, rfl⟩))
              rename_i hHeld
              have PL1 := Lib.hid hHeld.2
              clear hHeld PZ PZs hff HE HR FR EQ hslA2 hslB hb hq
              go_wp2_with fail
              go_loopw [14] (fun i w => PwRel wb b rb o room fs freed ys bx xv i w) (fun i _ => ((o : Int) + 1 - intOf i).toNat)
              case atStart => exact ⟨0, by omega, rfl, PL1.out⟩
              case round =>
                obtain ⟨q, hq, rfl, hP⟩ := hrel
                have PQ := Lib.hid hP
                clear hP PL1
                by_cases hql : q < o + 2
                · obtain ⟨L2, hL2, hW1, hW2⟩ := wait_both PQ.out PPz.out (by omega) k4' ((q : Int) - 1) (by omega) (by omega)
                  have WA := Lib.hid hW1; have WB := Lib.hid hW2
                  clear hW1 hW2
                  have hqle : (q : Int) - 1 ≤ (o : Int) := by omega
                  have hq1 : -1 ≤ (q : Int) - 1 := by omega
                  have hq2 : (q : Int) - 1 ≤ 8 := by omega
                  generalize hqe : (q : Int) - 1 = qi at *
                  have HQE := Lib.hid hqe; clear hqe
                  go_wp2_with fail
                  refine WA.out.mono ?_
                  rintro e y1 ⟨v1, rfl, hr1, hb1⟩
                  obtain ⟨a1', c1', rfl, hrest1⟩ := hr1
                  have S1y : Hid (SlI y1 a1' L2) := Rw.sl (⟨a1', c1', rfl, hrest1⟩ : Rw (Value.int .i64) 3 y1 _ _ _)
                  have B1y := Lib.hid hb1
                  clear hrest1 hb1 WA
                  go_wp2_with fail
                  refine (WB.out _ B1y.out).mono ?_
                  rintro e y2 ⟨v2', rfl, hr2, hb2⟩
                  obtain ⟨a2', c2', rfl, hrest2⟩ := hr2
                  have E2 := Lib.hid (equalInt_same y2 a1' a2' c1' c2' L2 (S1y.out.below hb2) (Rw.sl (⟨a2', c2', rfl, hrest2⟩ : Rw (Value.int .i64) 3 y2 _ _ _)) (by unfold maxLen; omega))
                  have P2y := Lib.hid ((PQ.out.below B1y.out).below hb2)
                  clear hrest2 hb2 WB
                  go_wp2_with fail
                  refine E2.out.mono ?_
                  rintro e y3 ⟨rfl, qq⟩
                  have P3y := Lib.hid (P2y.out.qt qq)
                  clear qq E2
                  go_wp2_with fail
                  go_roundw
                  case rel => exact ⟨q + 1, by omega, congrArg (Value.int .i64) (by have := HQE.out; omega), P3y.out⟩
                  case measure => have := HQE.out; simp [intOf]; omega
                · obtain rfl : q = o + 2 := by omega
                  have hqle : ¬ (((o + 2 : Nat) : Int) - 1 ≤ (o : Int)) := by omega
                  generalize hqe : ((o + 2 : Nat) : Int) - 1 = qi at *
                  have HQE := Lib.hid hqe; clear hqe
                  obtain ⟨v, v2, rs, hF9, hR9, e9⟩ := PQ.out.ex
                  have F9 : Hid (PmRel wb b rb o room xs.length (.int .i64 ((k + 1 : Nat) : Int)) wr) := ⟨k + 1, _, _, _, by omega, rfl, PPz.out, v, v2, rs, hF9, hR9, e9, PQ.out.bel⟩
                  clear hF9 hR9 e9
                  go_wp2_with fail
                  go_roundw
                  case rel => have := F9.out; simpa using this
                  case measure => simp [intOf]; omega
        · go_wp2_with fail
          go_ret
          exact ⟨rfl, BB.out.trans (BW.out.mono BB.out.size)⟩
end Go.Proofs.Yteomiofmaopkhaa
