/-
  The walk of the law ArbiterChooses.
-/
import Derived.Test.YthjlknomaoolaaaMoreB
import Derived.Test.YthjlknomaoolaaaAwake
namespace Go.Proofs.Ythjlknomaoolaaa
open Go.RowKit

structure ChMem (W : World) (B n p : Nat) (ages : List Int) (w : World) : Prop where
  h1 : ArbAt 55 w (B + 1) B p ages
  hp : p < n
  hl : ages.length = n
  hb : ∀ a ∈ ages, 0 ≤ a ∧ a ≤ 1073741824
  bel : Below W.heap.size W w
def ChRel (W : World) (B n len : Nat) (i : Value) (w : World) : Prop := ∃ k : Nat, k ≤ len ∧ i = .int .i64 k ∧ ∃ p ages, ChMem W B n p ages w
theorem ChMem.qt {W : World} {B n p : Nat} {ages : List Int} {w w' : World} (h : ChMem W B n p ages w) (q : Qt w w') : ChMem W B n p ages w' :=
  ⟨h.h1.qt q, h.hp, h.hl, h.hb, h.bel.trans (q.below _)⟩

set_option maxHeartbeats 2000000 in
set_option maxRecDepth 100000 in
theorem arbiterChooses_walk (W : World) (a1 : Option Addr) (c1 : Nat) (l : List (RowOf Bool)) (s1 : Sl RowOf.val W a1 l)
    (g1 : ∀ r ∈ l, SlB W (RowOf.a r) r.xs ∧ (∀ y ∈ r.xs, True) ∧ r.xs.length ≤ maxLen) (m1 : l.length ≤ maxLen) :
    Calls Try.prog 7 #[.slice a1 l.length c1] W fun e W' => e = .returned (.bool true) ∧ Below W.heap.size W W' := by
  have HAW := Lib.hid (awake_ok W)
  have HGR := Lib.hid fun w (h : Below W.heap.size W w) => great_any w a1 c1 l (s1.below h) m1
  have S1 := Lib.hid s1; have G1 := Lib.hid g1
  clear s1 g1 m1
  go_enter Try.func7, Try.ntmps7
  go_wp2_with fail
  refine HAW.out.mono ?_
  rintro e w1 ⟨rfl, hb⟩
  have B1 := Lib.hid hb; clear hb
  go_wp2_with fail
  refine (HGR.out w1 B1.out).mono ?_
  rintro e w2 ⟨r, rfl, hr, hw⟩
  subst hw
  have HR := Lib.hid hr; clear hr
  cases r with
  | true =>
    go_wp2_with fail
    go_ret
    exact ⟨rfl, B1.out⟩
  | false =>
    have hsm := HR.out rfl
    have hl100 := hsm.2
    have HSM := Lib.hid hsm.1
    clear hsm HR
    by_cases hl0 : l.length = 0
    · have h0 : ((l.length : Int) == 0) = true := by simp [hl0]
      clear hl0
      go_wp2_with fail
      go_ret
      exact ⟨rfl, B1.out⟩
    · have h0 : ((l.length : Int) == 0) = false := by simp; intro e; simp [e] at hl0
      have hl1 : 0 < l.length := by omega
      have hl2 : (0 : Int) < (l.length : Int) := by omega
      obtain ⟨row0, er0, okr0, cr0⟩ := (S1.out.below B1.out).get (k := 0) hl1
      have G0 := Lib.hid (G1.out row0 (List.mem_of_getElem? er0.out))
      have hn70 := HSM.out row0 (List.mem_of_getElem? er0.out)
      unfold RowOf.val at cr0
      clear hl0
      generalize hn : row0.xs.length = n at *
      have HN := Lib.hid hn; clear hn
      by_cases hbad : (n : Int) < 1 ∨ 64 < (n : Int)
      · have NB := Lib.hid (new_bad n w2 hbad)
        rcases hbad with hbad | hbad
        all_goals
          (try have hnn : ¬ (n : Int) < 1 := by omega)
          go_wp2_with fail
          refine NB.out.mono ?_
          rintro e w3 ⟨rfl, rfl⟩
          go_wp2_with fail
          go_ret
          exact ⟨by first | rfl | (simp; omega), B1.out⟩
      · have hnn : 1 ≤ n := by omega
        have hn64 : n ≤ 64 := by omega
        have NO := Lib.hid (new_ok n w2 hnn hn64)
        clear hbad
        go_wp2_with fail
        refine NO.out.mono ?_
        rintro e w3 ⟨rfl, hA, hB, hz⟩
        have F0 : Hid (ChMem W w2.heap.size n 0 (List.replicate n 0) w3) := ⟨hA, by omega, by simp, by simp, B1.out.trans (hB.mono B1.out.size)⟩
        have hBW : W.heap.size ≤ w2.heap.size := B1.out.size
        clear hA hB hz
        go_wp2_with fail
        generalize w2.heap.size = B at *
        go_loopw [42] (fun i wr => ChRel W B n l.length i wr) (fun i _ => l.length - (intOf i).toNat)
        case atStart => exact ⟨0, Nat.zero_le _, rfl, _, _, F0.out⟩
        case round =>
          obtain ⟨k, hk, rfl, p, ages, hm⟩ := hrel
          have HM := Lib.hid hm; clear hm
          by_cases hlt : k < l.length
          · obtain ⟨row, er, okr, cr⟩ := (S1.out.below HM.out.bel).get (k := k) hlt
            unfold RowOf.val at cr
            have hrow := G1.out row (List.mem_of_getElem? er.out)
            have HSL := Lib.hid (hrow.1.below HM.out.bel)
            have hold : row.xs ≠ [] → (row.a.getD default).block < W.heap.size := hrow.1.old
            clear hrow
            by_cases hlen : row.xs.length = n
            · have hold' := hold (by intro e; rw [e] at hlen; simp at hlen; omega)
              have P1 := Lib.hid (pick_any wr row.a (B + 1) B p n row.c ages row.xs HM.out.h1 HSL.out HM.out.hp hnn hn64 HM.out.hl hlen HM.out.hb ⟨by omega, by omega⟩)
              have hne : ((n : Int) == (n : Int)) = true := by simp
              have hmem := pkf_mem row.xs HM.out.hp hlen
              have hall := pkf_all row.xs HM.out.hp
              have HM2 := Lib.hid fun (w4 : World) (hm1 : PkMem 55 wr row.a (B + 1) B (nextP p n (pkf n p row.xs n)) (ag row.xs (pkf n p row.xs n) ages n) row.xs w4) =>
                (⟨hm1.1, nextP_lt _ _ _ HM.out.hp (pkf_range n p row.xs (by omega) n), by rw [ag_len, HM.out.hl], ag_bd _ _ _ HM.out.hb _,
                  Upd.below HM.out.bel hm1.2.2.1 HM.out.bel.size (by intro i hi; omega)⟩ : ChMem W B n (nextP p n (pkf n p row.xs n)) (ag row.xs (pkf n p row.xs n) ages n) w4)
              have hl9 : row.xs.length ≤ 1000000000 := by omega
              have HLEN := Lib.hid hlen
              rcases hall with ⟨h1, _⟩ | ⟨c, hc, h1, hrc, _⟩
              · rw [h1] at P1 HM2 hmem
                have hdec : Hid (decide (true ∈ row.xs) = false) := by
                  show _ = _
                  rw [decide_eq_false_iff_not, ← hmem]
                  omega
                clear hmem h1 hold
                rw [hlen] at cr
                clear hlen
                generalize nextP p n (-1) = p2 at *
                generalize ag row.xs (-1) ages n = ages2 at *
                go_wp2_with fail
                refine P1.out.mono ?_
                rintro e w4 ⟨rfl, hm1⟩
                have M4 := Lib.hid (HM2.out w4 hm1)
                have SL4 := Lib.hid hm1.2.1
                have CQ := Lib.hid fun m => containsBool_q w4 m row.a row.c row.xs true SL4.out hl9 false hdec
                rw [HLEN.out] at CQ
                clear hm1
                go_wp2_with fail
                go_quiet ((go_at_call 17; exact CQ.out _))
                go_wp2_with fail
                go_roundw
                case rel => exact ⟨k + 1, by omega, by go_num, p2, ages2, M4.out.qt (Qt.drewN' _ _)⟩
                case measure => simp [intOf]; omega
              · rw [h1] at P1 HM2 hmem
                have hdec : Hid (decide (true ∈ row.xs) = true) := by
                  show _ = _
                  rw [decide_eq_true_eq, ← hmem]
                  omega
                have hcell : Hid (row.xs[c]? = some true) := by
                  show _ = _
                  rw [List.getD_eq_getElem?_getD, List.getElem?_eq_getElem (by omega)] at hrc
                  rw [List.getElem?_eq_getElem (by omega)]
                  simpa using hrc
                have hnx : Hid (((c : Int) + 1) % (n : Int) = (nextP p n c : Nat)) := by
                  show _ = _
                  rw [nextP_eq]
                  simp
                clear hmem h1 hold hrc
                rw [hlen] at cr
                clear hlen
                generalize nextP p n (c : Int) = p2 at *
                generalize ag row.xs (c : Int) ages n = ages2 at *
                have hcn : (c : Int) < (n : Int) := by omega
                have hc0 : (0 : Int) ≤ (c : Int) := by omega
                go_wp2_with fail
                refine P1.out.mono ?_
                rintro e w4 ⟨rfl, hm1⟩
                have M4 := Lib.hid (HM2.out w4 hm1)
                have SL4 := Lib.hid hm1.2.1
                have CQ := Lib.hid fun m => containsBool_q w4 m row.a row.c row.xs true SL4.out hl9 true hdec
                rw [HLEN.out] at CQ
                have NQ := Lib.hid fun m => next_q w4 m (B + 1) B p2 ages2 M4.out.h1
                have cc := (hm1.2.1 c true hcell.out).2
                have oc := (hm1.2.1 c true hcell.out).1
                have hnx2 := hnx.out
                have e1 : IntKind.i64.wrap ((c : Int) + 1) = (c : Int) + 1 := IntWalk.i64_in _ (by omega)
                have e3 : ((n : Int) == 0) = false := by rw [beq_eq_false_iff_ne]; omega
                have e4 : ¬ n = 0 := by omega
                have e2 : ((c : Int) + 1).tmod (n : Int) = (p2 : Int) := by rw [Int.tmod_eq_emod_of_nonneg (by omega)]; exact hnx2
                clear hm1
                go_wp2_with fail
                go_quiet ((first | (go_at_call 17; exact CQ.out _) | (go_at_call 20; exact NQ.out _)))
                go_wp2_with fail
                go_roundw
                case rel => exact ⟨k + 1, by omega, by go_num, p2, ages2, M4.out.qt (Qt.drewN' _ _)⟩
                case measure => simp [intOf]; omega
            · have P1 := Lib.hid (pick_bad wr row.a (B + 1) B p row.xs.length row.c ages HM.out.h1 (by rw [HM.out.hl]; omega) (by rw [HM.out.hl]; exact hlen))
              have hne : ((row.xs.length : Int) == (n : Int)) = false := by simp; omega
              clear hlen hold
              go_wp2_with fail
              refine P1.out.mono ?_
              rintro e w4 ⟨rfl, rfl⟩
              go_wp2_with fail
              go_quiet (fail)
              go_wp2_with fail
              go_roundw
              case rel => exact ⟨k + 1, by omega, by go_num, p, ages, HM.out.qt (Qt.drewN' _ _)⟩
              case measure => simp [intOf]; omega
          · obtain rfl : k = l.length := by omega
            go_wp2_with fail
            go_ret
            exact ⟨rfl, HM.out.bel⟩
end Go.Proofs.Ythjlknomaoolaaa
