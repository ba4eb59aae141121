/-
  The walk of the law CrossbarNothing.
-/
import Derived.Test.YtldgpdgoccccpaaBarNo
import Derived.Test.YtldgpdgoccccpaaLawFills
import Derived.RegionTactic
import Derived.BigRegion
import Derived.IntWalk
namespace Go.Proofs.Ytldgpdgoccccpaa
open Go.RowKit
set_option linter.unusedVariables false

def zL (n : Nat) (m : Nat → Int) : List Int := (List.range n).map m
theorem zL_len (n : Nat) (m : Nat → Int) : (zL n m).length = n := by simp [zL]
theorem zL_get {n k : Nat} {m : Nat → Int} (h : k < n) : (zL n m)[k]? = some (m k) := by unfold zL; rw [List.getElem?_map, List.getElem?_range h]; rfl
theorem zL_set (n : Nat) (m : Nat → Int) {k : Nat} (h : k < n) (x : Int) : (zL n m).set k x = zL n (Bar.upd m k x) := (Bar.range_upd m x h).symm
/-- The first k pointers are raised by 100. -/
def pk (g : Nat → Nat) (k j : Nat) : Int := if j < k then (g j : Int) + 100 else (g j : Int)
theorem pk_zero (n : Nat) (g : Nat → Nat) : gL n g = zL n (pk g 0) := by unfold gL zL; congr 1
theorem pk_succ (g : Nat → Nat) (k : Nat) : Bar.upd (pk g k) k ((g k : Int) + 100) = pk g (k + 1) := by
  funext j
  unfold Bar.upd pk
  by_cases e : j = k
  · subst e; simp
  · rw [if_neg e]
    by_cases h : j < k
    · rw [if_pos h, if_pos (by omega)]
    · rw [if_neg h, if_neg (by omega)]
/-- The copies of the pointers. -/
structure CpAt (w : World) (b1 b2 : Nat) (sp1 sp2 : List Value) (l1 l2 : List Int) : Prop where
  k1 : Blk w b1 3 (l1.map (Value.int .i64) ++ sp1)
  k2 : Blk w b2 3 (l2.map (Value.int .i64) ++ sp2)
theorem CpAt.upd {S : Nat → Prop} {w w' : World} {b1 b2 : Nat} {sp1 sp2 : List Value} {l1 l2 : List Int} (h : CpAt w b1 b2 sp1 sp2 l1 l2) (u : Upd S w w') (h1 : ¬ S b1) (h2 : ¬ S b2) : CpAt w' b1 b2 sp1 sp2 l1 l2 := ⟨h.k1.upd u h1, h.k2.upd u h2⟩
theorem CpAt.below {w w' : World} {b1 b2 : Nat} {sp1 sp2 : List Value} {l1 l2 : List Int} (h : CpAt w b1 b2 sp1 sp2 l1 l2) (b : Below w.heap.size w w') : CpAt w' b1 b2 sp1 sp2 l1 l2 := h.upd (S := fun _ => False) (Upd.of_below b) id id
def NoRel (W : World) (ca n b1 b2 : Nat) (sp1 sp2 : List Value) (p : (Nat → Nat) × (Nat → Nat)) (i : Value) (w : World) : Prop := ∃ k : Nat, k ≤ n ∧ i = .int .i64 k ∧ Sgl W ca n p w ∧ CpAt w b1 b2 sp1 sp2 (zL n (pk p.1 k)) (zL n (pk p.2 k))
def NoRel2 (W : World) (ca n b1 b2 b3 b4 : Nat) (sp1 sp2 sp3 sp4 : List Value) (p : (Nat → Nat) × (Nat → Nat)) (i : Value) (w : World) : Prop := ∃ k : Nat, k ≤ n ∧ i = .int .i64 k ∧ Sgl W ca n p w ∧ CpAt w b1 b2 sp1 sp2 (zL n (pk p.1 n)) (zL n (pk p.2 n)) ∧ CpAt w b3 b4 sp3 sp4 (gL n p.1) (gL n p.2)
theorem gL_get' {n k : Nat} {g : Nat → Nat} (h : k < n) : (gL n g)[k]? = some (g k : Int) := by unfold gL; rw [List.getElem?_map, List.getElem?_range h]; rfl

theorem al2_new (w : World) (o1 o2 : Obj) : ((w.alloc o1).alloc o2).heap[w.heap.size + 1]? = some o2 := by
  have := heap_alloc_new (w.alloc o1) o2
  rw [World.size_alloc] at this; exact this
theorem grown_below {w w' : World} {v : Value} {base : Nat} (h : w.grownBy w' v.ownBlock) (ho : ∀ g : Nat, v.ownBlock = some g → base ≤ g) (hb : base ≤ w.heap.size) : Below base w w' := (Below.refl _ _).grown h hb ho

set_option maxHeartbeats 16000000 in
set_option maxRecDepth 100000 in
theorem crossbarNothing_walk (W : World) (a0 : Option Addr) (c0 : Nat) (x0 : List (RowOf Bool)) (s0 : Sl RowOf.val W a0 x0) (g0 : ∀ r ∈ x0, Sl Value.bool W (RowOf.a r) r.xs ∧ (∀ y ∈ r.xs, True) ∧ r.xs.length ≤ maxLen) (m0 : x0.length ≤ maxLen)
    (a1 : Option Addr) (c1 : Nat) (x1 : List (RowOf Bool)) (s1 : Sl RowOf.val W a1 x1) (g1 : ∀ r ∈ x1, Sl Value.bool W (RowOf.a r) r.xs ∧ (∀ y ∈ r.xs, True) ∧ r.xs.length ≤ maxLen) (m1 : x1.length ≤ maxLen) (z : Int) (wz : IntOk .i64 z) :
    Calls Try.prog 4 #[.slice a0 x0.length c0, .slice a1 x1.length c1, .int .i64 z] W fun e W' => e = .returned (.bool true) ∧ Below W.heap.size W W' := by
  obtain ⟨rq0, ln0⟩ := req_of s0 g0 m0
  obtain ⟨rq1, ln1⟩ := req_of s1 g1 m1
  have RQ := Lib.hid rq0; have LN := Lib.hid ln0; have RQ1 := Lib.hid rq1; have LN1 := Lib.hid ln1
  have HAW := Lib.hid (awake_ok W)
  have mm0 := m0; have mm1 := m1
  unfold maxLen at mm0 mm1
  clear s0 g0 rq0 ln0 s1 g1 rq1 ln1 m0 m1 wz
  cases hgr : grB x0 with
  | true =>
    have HGR := Lib.hid hgr; clear hgr
    go_enter Try.func4, Try.ntmps4
    go_wp2_with fail
    go_fit HAW.out
    rintro e w1 ⟨rfl, hb⟩
    have B1 := Lib.hid hb; clear hb
    have G := great_any w1 a0 c0 x0 (RQ.out.below B1.out) LN.out
    rw [HGR.out] at G
    have G1 := Lib.hid G; clear G
    go_wp2_with fail
    go_fit G1.out
    rintro e w2 ⟨rfl, rfl⟩
    go_wp2_with fail
    go_ret
    exact ⟨rfl, B1.out⟩
  | false =>
    have HGR := Lib.hid hgr
    obtain ⟨h10, _⟩ := grB_false hgr
    clear hgr
    cases hgr1 : grB x1 with
    | true =>
      have HGR1 := Lib.hid hgr1; clear hgr1
      go_enter Try.func4, Try.ntmps4
      go_wp2_with fail
      go_fit HAW.out
      rintro e w1 ⟨rfl, hb⟩
      have B1 := Lib.hid hb; clear hb
      have G := great_any w1 a0 c0 x0 (RQ.out.below B1.out) LN.out
      rw [HGR.out] at G
      have G1 := Lib.hid G; clear G
      go_wp2_with fail
      go_fit G1.out
      rintro e w2 ⟨rfl, rfl⟩
      have G := great_any w1 a1 c1 x1 (RQ1.out.below B1.out) LN1.out
      rw [HGR1.out] at G
      have G1 := Lib.hid G; clear G
      go_wp2_with fail
      go_fit G1.out
      rintro e w2 ⟨rfl, rfl⟩
      go_wp2_with fail
      go_ret
      exact ⟨rfl, B1.out⟩
    | false =>
      have HGR1 := Lib.hid hgr1
      obtain ⟨h101, _⟩ := grB_false hgr1
      clear hgr1
      by_cases hbad : (x0.length : Int) < 1 ∨ (8 : Int) < x0.length
      · go_enter Try.func4, Try.ntmps4
        go_wp2_with fail
        go_fit HAW.out
        rintro e w1 ⟨rfl, hb⟩
        have B1 := Lib.hid hb; clear hb
        have G := great_any w1 a0 c0 x0 (RQ.out.below B1.out) LN.out
        rw [HGR.out] at G
        have G1 := Lib.hid G; clear G
        go_wp2_with fail
        go_fit G1.out
        rintro e w2 ⟨rfl, rfl⟩
        have G := great_any w1 a1 c1 x1 (RQ1.out.below B1.out) LN1.out
        rw [HGR1.out] at G
        have G1 := Lib.hid G; clear G
        go_wp2_with fail
        go_fit G1.out
        rintro e w2 ⟨rfl, rfl⟩
        have MN := Lib.hid (match_nil w1 a0 c0 x0.length z)
        go_wp2_with fail
        go_fit MN.out
        rintro e w2 ⟨rfl, rfl⟩
        have PN := Lib.hid (ptr_nil w1)
        go_wp2_with fail
        go_fit PN.out
        rintro e w2 ⟨rfl, rfl⟩
        have NB := Lib.hid (barnew_bad (x0.length : Int) w1 hbad)
        go_wp2_with fail
        go_fit NB.out
        rintro e w2 ⟨rfl, rfl⟩
        rcases hbad with h1 | h1
        · go_wp2_with fail
          go_ret
          exact ⟨rfl, B1.out⟩
        · have h2 : ¬ (x0.length : Int) < 1 := by omega
          go_wp2_with fail
          go_ret
          exact ⟨rfl, B1.out⟩
      · have hn1 : 1 ≤ x0.length := by omega
        have hn8 : x0.length ≤ 8 := by omega
        clear hbad
        have RGZ : Hid (Bar.Rg x0.length (fun _ => 0, fun _ => 0)) := ⟨fun k hk => by show 0 < _; omega, fun k hk => by show 0 < _; omega⟩
        generalize hn : x0.length = n at *
        have HN := Lib.hid hn
        generalize hm : x1.length = ny at *
        have HM := Lib.hid hm
        clear hn hm
        go_enter Try.func4, Try.ntmps4
        go_wp2_with fail
        go_fit HAW.out
        rintro e w1 ⟨rfl, hb⟩
        have B1 := Lib.hid hb; clear hb
        have G := great_any w1 a0 c0 x0 (RQ.out.below B1.out) LN.out
        rw [HGR.out, HN.out] at G
        have G1 := Lib.hid G; clear G
        go_wp2_with fail
        go_fit G1.out
        rintro e w2 ⟨rfl, rfl⟩
        have G := great_any w1 a1 c1 x1 (RQ1.out.below B1.out) LN1.out
        rw [HGR1.out, HM.out] at G
        have G1 := Lib.hid G; clear G
        go_wp2_with fail
        go_fit G1.out
        rintro e w2 ⟨rfl, rfl⟩
        have MN := Lib.hid (match_nil w1 a0 c0 n z)
        go_wp2_with fail
        go_fit MN.out
        rintro e w2 ⟨rfl, rfl⟩
        have PN := Lib.hid (ptr_nil w1)
        go_wp2_with fail
        go_fit PN.out
        rintro e w2 ⟨rfl, rfl⟩
        have NB := Lib.hid (barnew_ok n w1 hn1 hn8)
        go_wp2_with fail
        go_fit NB.out
        rintro e w2 ⟨rfl, hA, hb, hz⟩
        have S2 : Hid (Sgl W w1.heap.size n (fun _ => 0, fun _ => 0) w2) := ⟨hA, RGZ.out, B1.out.trans (hb.mono B1.out.size)⟩
        have hWa := B1.out.size
        have MG := match_gen w2 w1.heap.size n 1 (fun _ => 0, fun _ => 0) a0 c0 x0 S2.out.a (RQ.out.below S2.out.bel) LN.out (by decide) (by decide) hn1 hn8 RGZ.out (req_offn' RQ.out hWa)
        rw [HN.out] at MG
        have MG1 := Lib.hid MG
        generalize hp : mst x0 n 1 (fun _ => 0, fun _ => 0) = p at MG1
        have RGP : Hid (Bar.Rg n p) := by rw [← hp]; exact mst_rg RGZ.out
        have hca2 := S2.out.a.lt
        clear hA hb hz NB MN PN G1 MG hp
        go_wp2_with fail
        generalize hca : w1.heap.size = ca at *
        clear hca
        go_fit MG1.out
        rintro e w3 ⟨v1, v2, rfl, hA3, hU3⟩
        have S3 : Hid (Sgl W ca n p w3) := ⟨hA3, RGP.out, Upd.below S2.out.bel hU3 S2.out.bel.size fun i hi => by omega⟩
        have PT := Lib.hid (ptr_any w3 ca n p.1 p.2 S3.out.a hn1 hn8)
        have lca := S3.out.a.lt
        clear hA3 hU3 MG1 S2
        go_wp2_with fail
        go_fit PT.out
        rintro e w4 ⟨va, vb, b1, b2, rfl, hc1, hc2, hl1, hl12, hb4⟩
        obtain ⟨sp1, d1, rfl, hk1⟩ := hc1
        obtain ⟨sp2, d2, rfl, hk2⟩ := hc2
        have S4 := Lib.hid (S3.out.below hb4)
        have C4 : Hid (CpAt w4 b1 b2 sp1 sp2 (zL n (pk p.1 0)) (zL n (pk p.2 0))) := ⟨by rw [← pk_zero]; exact hk1, by rw [← pk_zero]; exact hk2⟩
        have hne1 : b1 ≠ b2 := by omega
        have hneA : ca ≠ b1 ∧ ca ≠ b2 ∧ W.heap.size ≤ b1 ∧ W.heap.size ≤ b2 := by have := S3.out.bel.size; omega
        obtain ⟨hneA1, hneA2, hWb1, hWb2⟩ := hneA
        simp only [gL_len]
        clear hk1 hk2 hl1 hl12 hb4 PT S3 lca
        go_wp2_with fail
        go_loopw [93] (fun i w => NoRel W ca n b1 b2 sp1 sp2 p i w) (fun i _ => n - (intOf i).toNat)
        case atStart => exact ⟨0, Nat.zero_le _, rfl, S4.out, C4.out⟩
        case round =>
          clear S4 C4
          obtain ⟨k, hk, rfl, hS, hC⟩ := hrel
          have S := Lib.hid hS; have C := Lib.hid hC
          clear hS hC
          by_cases hlt : k < n
          · have hpk : ∀ g : Nat → Nat, pk g k k = (g k : Int) := fun g => by simp [pk]
            have q1 : wr.cell? ⟨b1, k, none⟩ = some (.int .i64 (p.1 k)) := C.out.k1.cell (by rw [List.getElem?_append_left (by rw [List.length_map, zL_len]; exact hlt), List.getElem?_map, zL_get hlt, hpk]; rfl)
            have q2 : wr.cell? ⟨b2, k, none⟩ = some (.int .i64 (p.2 k)) := C.out.k2.cell (by rw [List.getElem?_append_left (by rw [List.length_map, zL_len]; exact hlt), List.getElem?_map, zL_get hlt, hpk]; rfl)
            have f1 := C.out.k1.free k
            have f2 := C.out.k2.free k
            have kn : (k : Int) < (n : Int) := by omega
            have g1 := RGP.out.g k hlt
            have g2 := RGP.out.a k hlt
            have FIN : Hid (CpAt ((wr.setCell ⟨b1, k, none⟩ (.int .i64 ((p.1 k : Int) + 100))).setCell ⟨b2, k, none⟩ (.int .i64 ((p.2 k : Int) + 100))) b1 b2 sp1 sp2 (zL n (pk p.1 (k + 1))) (zL n (pk p.2 (k + 1)))) := by
              have h1 := C.out.k1.setL (k := k) (by rw [zL_len]; exact hlt) ((p.1 k : Int) + 100)
              have h2 := (C.out.k2.setO (a := ⟨b1, k, none⟩) (.int .i64 ((p.1 k : Int) + 100)) (fun e => hne1 e.symm)).setL (k := k) (by rw [zL_len]; exact hlt) ((p.2 k : Int) + 100)
              rw [zL_set n _ hlt, pk_succ] at h1 h2
              exact ⟨h1.setO _ hne1, h2⟩
            have UU : Hid (Upd (fun j => j = b1 ∨ j = b2) wr ((wr.setCell ⟨b1, k, none⟩ (.int .i64 ((p.1 k : Int) + 100))).setCell ⟨b2, k, none⟩ (.int .i64 ((p.2 k : Int) + 100)))) := ((Upd.refl (fun j => j = b1 ∨ j = b2) wr).setCell ⟨b1, k, none⟩ _ fun _ => .inl rfl).setCell ⟨b2, k, none⟩ _ fun _ => .inr rfl
            have SF : Hid (Sgl W ca n p ((wr.setCell ⟨b1, k, none⟩ (.int .i64 ((p.1 k : Int) + 100))).setCell ⟨b2, k, none⟩ (.int .i64 ((p.2 k : Int) + 100)))) := ⟨S.out.a.upd UU.out (by omega), S.out.rg, Upd.below S.out.bel UU.out S.out.bel.size fun i hi => by omega⟩
            generalize p.1 k = y1 at *
            generalize p.2 k = y2 at *
            have hw1 : IntKind.i64.wrap ((y1 : Int) + 100) = (y1 : Int) + 100 := IntWalk.i64_in _ (by omega)
            have hw2 : IntKind.i64.wrap ((y2 : Int) + 100) = (y2 : Int) + 100 := IntWalk.i64_in _ (by omega)
            clear hpk UU
            go_wp2_with fail
            go_region
            clear q1 q2 f1 f2
            go_wp2_with fail
            go_roundw
            case rel => exact ⟨k + 1, by omega, by go_num, SF.out.below (Qt.refl _).drew.bel, FIN.out.below (Qt.refl _).drew.bel⟩
            case measure => simp [intOf]; omega
          · obtain rfl : n = k := by omega
            obtain ⟨i0, hi0, hz0, hz1, hz2⟩ := info_parts Try.infoRow
            have HI := Lib.hid hi0; have HZ0 := Lib.hid hz0; have HZ1 := Lib.hid hz1; have HZ2 := Lib.hid hz2
            have hmk0 := fun w => make_bools w (n + 1) (by omega)
            have hmk : ∀ w : World, (Instr.makeSlice 27 (.int .i64 ((n : Int) + 1)) (.int .i64 ((n : Int) + 1))).run Try.prog w = .ok (.slice (some ⟨w.heap.size, 0, none⟩) (n + 1) (n + 1)) (w.alloc (.cells ((List.replicate (n + 1) false).map Value.bool).toArray 4)) := fun w => by
              have := hmk0 w
              rwa [show ((n + 1 : Nat) : Int) = (n : Int) + 1 by simp] at this
            generalize (List.replicate (n + 1) false).map Value.bool = LB at hmk
            have CL : Hid (∀ w, Below wr.heap.size wr w → Calls Try.prog 19 #[.slice a1 ny c1] w fun e w' => ∃ v, e = .returned v ∧ w'.ownsRow wr.heap.size 27 1 v ny (x1.map RowOf.val) ∧ Below w.heap.size w w') := fun w hb => by
              have := cloneRow_any w a1 c1 x1 ((RQ1.out.below (S.out.bel.trans (hb.mono S.out.bel.size))).hs) (by rw [HM.out]; omega)
              rw [HM.out] at this
              refine this.mono fun e w' ⟨v, h1, h2, h3⟩ => ⟨v, h1, ?_, h3⟩
              have := h2.own
              rw [HM.out] at this
              exact own_mono this hb.size
            have MA : Hid (∀ w (mb : Option Addr) g cap, Below wr.heap.size wr w → w.ownsRow wr.heap.size 27 1 (.slice (some ⟨g, 0, none⟩) (ny + 1) cap) (ny + 1) (x1.map RowOf.val ++ [.slice mb (n + 1) (n + 1)]) →
                Calls Try.prog 16 #[.pointer (some ⟨ca, 0, none⟩), .slice (some ⟨g, 0, none⟩) (ny + 1) cap, .int .i64 z] w fun e w' => e = .returned (.tuple #[.slice none 0 0, .int .i64 1]) ∧ w = w') := fun w mb g cap hb ho => by
              have el : (x1.map RowOf.val ++ [.slice mb (n + 1) (n + 1)] : List Value) = (x1 ++ [⟨mb, n + 1, List.replicate (n + 1) false⟩] : List (RowOf Bool)).map RowOf.val := by simp [RowOf.val]
              rw [el] at ho
              have hlx : (x1 ++ [⟨mb, n + 1, List.replicate (n + 1) false⟩] : List (RowOf Bool)).length = ny + 1 := by simp [HM.out]
              have := match_arg_sl w ca n p.1 p.2 (some ⟨g, 0, none⟩) cap (x1 ++ [⟨mb, n + 1, List.replicate (n + 1) false⟩]) z (S.out.below hb).a (by
                obtain ⟨g', sp, e1, _, hbk, _⟩ := own_blk ho (by simp)
                cases e1
                exact hbk.sub) (by rw [hlx]; unfold maxLen; omega) (fun r hr => by
                rcases List.mem_append.1 hr with h | h
                · exact LN1.out.2 r h
                · simp at h; subst h; simp [maxLen]; omega) (by
                simp only [sqB, decide_eq_false_iff_not]
                rintro ⟨_, h2⟩
                have := h2 ⟨mb, n + 1, List.replicate (n + 1) false⟩ (by simp)
                simp at this)
              rw [hlx] at this
              exact this
            clear hi0 hz0 hz1 hz2 hmk0
            have hw1 : IntKind.i64.wrap ((n : Int) + 1) = (n : Int) + 1 := IntWalk.i64_in _ (by omega)
            have b0 := Below.refl wr.heap.size wr
            go_wp2_with fail
            go_region_held3 (fun w' => Below wr.heap.size wr w')
              ((go_split_ands; first | assumption | exact Below.trans (by assumption) (Qt.refl _).drew.bel | exact Below.trans (by assumption) (Below.mono (by assumption) (Below.size (by assumption))) | exact Below.alloc (by assumption) (Below.size (by assumption)) _ | go_keep))
              (first
                | (go_at_call 19; go_split_ands; refine (CL.out _ (by assumption)).mono ?_; rintro e w5 ⟨v5, rfl, hown5, hb5⟩)
                | (go_at_call 16; go_split_ands; refine (MA.out _ _ _ _ (by assumption) (by assumption)).mono ?_; rintro e w7 ⟨rfl, rfl⟩)
                | (refine step_append_lies _ (by rfl) (.tmp 116) (.tmp 120) 25 (by rfl) wr.heap.size 27 i0 _ 1 24 Try.underlying25 HI.out HZ0.out HZ1.out HZ2.out rfl (by decide) _ ny (x1.map RowOf.val) (by rfl) (own_heap ((hown5.alloc _).alloc _) rfl) ⟨w5.heap.size + 1, 0, none⟩ 1 1 [.slice (some ⟨w5.heap.size, 0, none⟩) (n + 1) (n + 1)] (by rfl) rfl (news_at (T := 27) (al2_new _ _ _)) (by intro u hu; simp at hu; subst hu; rfl) (by decide) (by unfold maxLen; omega) (by omega) (by have := hb5.size; simp at this ⊢; omega) _ rfl ?_; intro g cap w6 hown6 hgr hat hglt; have hb6 := grown_below (base := wr.heap.size) hgr (fun g hg => (own_lt hown5 hg).2) (by have := hb5.size; simp at this ⊢; omega))
                | (refine step_append_lies _ (by rfl) (.tmp 116) (.tmp 120) 25 (by rfl) wr.heap.size 27 i0 _ 1 24 Try.underlying25 HI.out HZ0.out HZ1.out HZ2.out rfl (by decide) _ ny (x1.map RowOf.val) (by rfl) (own_heap (hown5.alloc _) rfl) ⟨w5.heap.size, 0, none⟩ 1 1 [.slice (some ⟨wr.heap.size, 0, none⟩) (n + 1) (n + 1)] (by rfl) rfl (news_at (T := 27) (heap_alloc_new _ _)) (by intro u hu; simp at hu; subst hu; rfl) (by decide) (by unfold maxLen; omega) (by omega) (by have := hb5.size; simp at this ⊢; omega) _ rfl ?_; intro g cap w6 hown6 hgr hat hglt; have hb6 := grown_below (base := wr.heap.size) hgr (fun g hg => (own_lt hown5 hg).2) (by have := hb5.size; simp at this ⊢; omega))
                | (refine step_append_lies _ (by rfl) (.tmp 116) (.tmp 120) 25 (by rfl) wr.heap.size 27 i0 _ 1 24 Try.underlying25 HI.out HZ0.out HZ1.out HZ2.out rfl (by decide) _ ny (x1.map RowOf.val) (by rfl) (own_heap hown5 rfl) ⟨wr.heap.size + 1, 0, none⟩ 1 1 [.slice (some ⟨wr.heap.size, 0, none⟩) (n + 1) (n + 1)] (by rfl) rfl (news_at (T := 27) ((hb5.block _ (by simp)).trans (al2_new _ _ _))) (by intro u hu; simp at hu; subst hu; rfl) (by decide) (by unfold maxLen; omega) (by omega) (by have := hb5.size; simp at this ⊢; omega) _ rfl ?_; intro g cap w6 hown6 hgr hat hglt; have hb6 := grown_below (base := wr.heap.size) hgr (fun g hg => (own_lt hown5 hg).2) (by have := hb5.size; simp at this ⊢; omega)))
            all_goals
              rename_i hHeld
              have S6 := Lib.hid (S.out.below hHeld)
              have C6 := Lib.hid (C.out.below hHeld)
              clear hHeld hown6 hgr hat hglt hown5 hb5 hb6 b0
              have PT := Lib.hid (ptr_any w6 ca n p.1 p.2 S6.out.a hn1 hn8)
              go_wp2_with fail
              go_fit PT.out
              rintro e w8 ⟨va, vb, b3, b4, rfl, hc3, hc4, hl3, hl34, hb8⟩
              obtain ⟨sp3, d3, rfl, hk3⟩ := hc3
              obtain ⟨sp4, d4, rfl, hk4⟩ := hc4
              have S8 := Lib.hid (S6.out.below hb8)
              have C8 := Lib.hid (C6.out.below hb8)
              have C9 : Hid (CpAt w8 b3 b4 sp3 sp4 (gL n p.1) (gL n p.2)) := ⟨hk3, hk4⟩
              simp only [gL_len]
              clear hk3 hk4 hl3 hl34 hb8 PT S6 C6
              go_wp2_with fail
              go_loopw [135] (fun i w => NoRel2 W ca n b1 b2 b3 b4 sp1 sp2 sp3 sp4 p i w) (fun i _ => n - (intOf i).toNat)
              case atStart => exact ⟨0, Nat.zero_le _, rfl, S8.out, C8.out, C9.out⟩
              case round =>
                clear S8 C8 C9 S C
                obtain ⟨k, hk, rfl, hS, hC, hD⟩ := hrel
                have S := Lib.hid hS; have C := Lib.hid hC; have D := Lib.hid hD
                clear hS hC hD
                by_cases hkt : k < n
                · have hpk : ∀ g : Nat → Nat, pk g n k = (g k : Int) + 100 := fun g => by simp [pk, hkt]
                  obtain ⟨z1, hz1⟩ : ∃ z1 : Int, Hid (z1 = (p.1 k : Int) + 100) := ⟨_, rfl⟩
                  obtain ⟨z2, hz2⟩ : ∃ z2 : Int, Hid (z2 = (p.2 k : Int) + 100) := ⟨_, rfl⟩
                  have q1 : wr.cell? ⟨b1, k, none⟩ = some (.int .i64 z1) := C.out.k1.cell (by rw [List.getElem?_append_left (by rw [List.length_map, zL_len]; exact hkt), List.getElem?_map, zL_get hkt, hpk, hz1.out]; rfl)
                  have q2 : wr.cell? ⟨b2, k, none⟩ = some (.int .i64 z2) := C.out.k2.cell (by rw [List.getElem?_append_left (by rw [List.length_map, zL_len]; exact hkt), List.getElem?_map, zL_get hkt, hpk, hz2.out]; rfl)
                  have q3 : wr.cell? ⟨b3, k, none⟩ = some (.int .i64 (p.1 k)) := D.out.k1.cell (by rw [List.getElem?_append_left (by rw [List.length_map, gL_len]; exact hkt), List.getElem?_map, gL_get' hkt]; rfl)
                  have q4 : wr.cell? ⟨b4, k, none⟩ = some (.int .i64 (p.2 k)) := D.out.k2.cell (by rw [List.getElem?_append_left (by rw [List.length_map, gL_len]; exact hkt), List.getElem?_map, gL_get' hkt]; rfl)
                  have kn : (k : Int) < (n : Int) := by omega
                  have g1 := RGP.out.g k hkt
                  have g2 := RGP.out.a k hkt
                  generalize p.1 k = y1 at *
                  generalize p.2 k = y2 at *
                  have hw1 : IntKind.i64.wrap (z1 - 100) = (y1 : Int) := by rw [hz1.out, show (y1 : Int) + 100 - 100 = y1 by omega]; exact IntWalk.i64_in _ (by omega)
                  have hw2 : IntKind.i64.wrap (z2 - 100) = (y2 : Int) := by rw [hz2.out, show (y2 : Int) + 100 - 100 = y2 by omega]; exact IntWalk.i64_in _ (by omega)
                  clear hpk
                  go_wp2_with fail
                  go_quiet (fail)
                  go_wp2_with fail
                  go_roundw
                  case rel => exact ⟨k + 1, by omega, by go_num, S.out.below (Qt.drewN' _ _).bel, C.out.below (Qt.drewN' _ _).bel, D.out.below (Qt.drewN' _ _).bel⟩
                  case measure => simp [intOf]; omega
                · obtain rfl : n = k := by omega
                  go_wp2_with fail
                  go_ret
                  exact ⟨rfl, S.out.bel⟩
end Go.Proofs.Ytldgpdgoccccpaa
