/-
  The walk of the law ArbiterFair.
-/
import Derived.Test.YthjlknomaoolaaaMore
import Derived.Test.YthjlknomaoolaaaAwake
import Derived.Test.YthjlknomaoolaaaPlain
namespace Go.Proofs.Ythjlknomaoolaaa
open Go.RowKit

structure FairMem (W : World) (B n p k : Nat) (ages : List Int) (wt : Int) (w : World) : Prop where
  h1 : ArbAt 55 w (B + 1) B p ages
  hp : p < n
  hw : waitInv n p ages
  hk : ages[k]? = some wt
  bel : Below W.heap.size W w
theorem FairMem.upd {W : World} {B n p k : Nat} {ages : List Int} {wt : Int} {w w' : World} (h : FairMem W B n p k ages wt w) (u : Below w.heap.size w w') : FairMem W B n p k ages wt w' :=
  have u' : Upd (fun _ => False) w w' := Upd.of_below u
  ⟨h.h1.upd u' id id, h.hp, h.hw, h.hk, h.bel.trans (u.mono h.bel.size)⟩

def FairRel (W : World) (B n len k : Nat) (t i : Value) (w : World) : Prop := ∃ j : Nat, j ≤ len ∧ i = .int .i64 j ∧ ∃ p ages wt, t = .int .i64 wt ∧ FairMem W B n p k ages wt w

theorem waitInv.bd {n p : Nat} {ages : List Int} (h : waitInv n p ages) (hn : n ≤ 64) : ∀ a ∈ ages, 0 ≤ a ∧ a ≤ 1073741824 := by
  intro a ha
  obtain ⟨j, hj, rfl⟩ := List.mem_iff_getElem.1 ha
  have := h.2 j _ (List.getElem?_eq_getElem hj)
  omega
theorem waitInv.lt {n p : Nat} {ages : List Int} (h : waitInv n p ages) {a : Int} {j : Nat} (ha : ages[j]? = some a) : 0 ≤ a ∧ a < n := by
  have := h.2 j a ha
  omega

set_option maxHeartbeats 2000000 in
set_option maxRecDepth 100000 in
theorem arbiterFair_walk (W : World) (a1 : Option Addr) (c1 : Nat) (l : List (RowOf Bool)) (s1 : Sl RowOf.val W a1 l)
    (g1 : ∀ r ∈ l, SlB W (RowOf.a r) r.xs ∧ (∀ y ∈ r.xs, True) ∧ r.xs.length ≤ maxLen) (m1 : l.length ≤ maxLen) (st : Int) (ws : (Lit.int .u8 st).wf = true) :
    Calls Try.prog 6 #[.slice a1 l.length c1, .int .u8 st] W fun e W' => e = .returned (.bool true) ∧ Below W.heap.size W W' := by
  have HAW := Lib.hid (awake_ok W)
  have HGR := Lib.hid fun w (h : Below W.heap.size W w) => great_any w a1 c1 l (s1.below h) m1
  have S1 := Lib.hid s1; have G1 := Lib.hid g1
  have hst : 0 ≤ st ∧ st ≤ 255 := by simpa [Lit.wf, IntKind.min, IntKind.max, IntKind.signed, IntKind.bits] using ws
  obtain ⟨hs0, hs1⟩ := hst
  clear s1 g1 m1 ws
  go_enter Try.func6, Try.ntmps6
  go_wp2_with fail
  refine HAW.out.mono ?_
  rintro e w1 ⟨rfl, hb⟩
  have B1 := Lib.hid hb; clear hb
  go_wp2_with fail
  refine (HGR.out w1 B1.out).mono ?_
  rintro e w2 ⟨r, rfl, hr, hw⟩
  subst hw
  have HR := Lib.hid hr; clear hr
  cases r with
  | true =>
    go_wp2_with fail
    go_ret
    exact ⟨rfl, B1.out⟩
  | false =>
    have hsm := HR.out rfl
    have hl100 := hsm.2
    clear hsm HR
    by_cases hl0 : l.length = 0
    · have h0 : ((l.length : Int) == 0) = true := by simp [hl0]
      clear hl0
      go_wp2_with fail
      go_ret
      exact ⟨rfl, B1.out⟩
    · have h0 : ((l.length : Int) == 0) = false := by simp; intro e; simp [e] at hl0
      have hl1 : 0 < l.length := by omega
      have hl2 : (0 : Int) < (l.length : Int) := by omega
      obtain ⟨row0, er0, okr0, cr0⟩ := (S1.out.below B1.out).get (k := 0) hl1
      have G0 := Lib.hid (G1.out row0 (List.mem_of_getElem? er0.out))
      unfold RowOf.val at cr0
      clear hl0
      generalize hn : row0.xs.length = n at *
      have HN := Lib.hid hn; clear hn
      by_cases hn0 : n = 0
      · subst hn0
        go_wp2_with fail
        go_ret
        exact ⟨rfl, B1.out⟩
      · have hn1 : ((n : Int) == 0) = false := by simp; exact hn0
        by_cases hn2 : (64 : Int) < n
        · go_wp2_with fail
          go_ret
          exact ⟨rfl, B1.out⟩
        · have hnn : 1 ≤ n := by omega
          have hn64 : n ≤ 64 := by omega
          have NO := Lib.hid (new_ok n w2 hnn hn64)
          obtain ⟨k, hk⟩ : ∃ k : Nat, st % (n : Int) = k := ⟨(st % (n : Int)).toNat, by have := Int.emod_nonneg st (show (n : Int) ≠ 0 by omega); omega⟩
          have hkn : k < n := by have := Int.emod_lt_of_pos st (show (0 : Int) < n by omega); omega
          have hnI : (0 : Int) < (n : Int) := by omega
          clear hn0
          go_wp2_with fail
          refine NO.out.mono ?_
          rintro e w3 ⟨rfl, hA, hB, hz⟩
          have F0 : Hid (FairMem W w2.heap.size n 0 k (List.replicate n 0) 0 w3) :=
            ⟨hA, by omega, wait_zero n hnn, by rw [List.getElem?_replicate, if_pos hkn], B1.out.trans (hB.mono B1.out.size)⟩
          have hBW : W.heap.size ≤ w2.heap.size := B1.out.size
          clear hA hB hz
          have HK := Lib.hid hk
          go_wp2_with fail
          clear hk
          generalize w2.heap.size = B at *
          go_loopw [9, 62] (fun t i wr => FairRel W B n l.length k t i wr) (fun _ i _ => l.length - (intOf i).toNat)
          case atStart => exact ⟨0, Nat.zero_le _, rfl, _, _, _, rfl, F0.out⟩
          case round =>
            obtain ⟨j, hj, rfl, p, ages, wt, rfl, hm⟩ := hrel
            have HM := Lib.hid hm; clear hm
            by_cases hlt : j < l.length
            · obtain ⟨row, er, okr, cr⟩ := (S1.out.below HM.out.bel).get (k := j) hlt
              unfold RowOf.val at cr
              have HSL := Lib.hid ((G1.out row (List.mem_of_getElem? er.out)).1.below HM.out.bel)
              by_cases hlen : row.xs.length = n
              · have hxne : row.xs ≠ [] := by intro e; rw [e] at hlen; simp at hlen; omega
                have HXNE := Lib.hid hxne
                have CL := Lib.hid (cloneBool_any wr row.a row.c row.xs HSL.out (by omega))
                rw [hlen] at cr CL
                have hne : ((n : Int) != (n : Int)) = false := by simp
                have HLEN := Lib.hid hlen; clear hlen hxne
                have hwt := HM.out.hw.lt HM.out.hk
                obtain ⟨hwt0, hwt1⟩ := hwt
                go_wp2_with fail
                refine CL.out.mono ?_
                rintro e w4 ⟨v, rfl, hv, hb⟩
                obtain ⟨g, sp, c, rfl, hg, hbk⟩ := hv.pos HXNE.out
                rw [HLEN.out]
                have hc := hbk.cell (i := k) (v := .bool (row.xs[k]'(by rw [HLEN.out]; exact hkn))) (by
                  rw [List.getElem?_append_left (by simp [HLEN.out]; exact hkn)]
                  simp)
                have hf := hbk.free k
                have BK := Lib.hid (hbk.setL (k := k) (by rw [HLEN.out]; exact hkn) true)
                have HB4 := Lib.hid hb
                have hg' : wr.heap.size ≤ g := hg
                clear hv hb hbk hg
                have hki : (k : Int) < (n : Int) := by omega
                go_wp2_with fail
                have hlt1 := HM.out.h1.hb.lt
                have hlt2 := HM.out.h1.hc.lt
                have uw : Upd (fun _ => False) wr (w4.setCell ⟨g, k, none⟩ (.bool true)) := (Upd.of_below HB4.out).setCell _ _ (fun h => by simp at h; omega)
                have PK := pick_any (w4.setCell ⟨g, k, none⟩ (.bool true)) (some ⟨g, 0, none⟩) (B + 1) B p n c ages (row.xs.set k true) (HM.out.h1.upd uw id id) (BK.out.slL) HM.out.hp hnn hn64 HM.out.hw.1 (by rw [List.length_set, HLEN.out]) (HM.out.hw.bd hn64) ⟨by show g ≠ _; omega, by show g ≠ _; omega⟩
                have hys : (row.xs.set k true).getD k false = true := by
                  rw [List.getD_eq_getElem?_getD, List.getElem?_set, if_pos rfl, if_pos (by rw [HLEN.out]; exact hkn)]; rfl
                have hch : 0 ≤ pkf n p (row.xs.set k true) n := (pkf_mem (row.xs.set k true) HM.out.hp (by rw [List.length_set, HLEN.out])).2 (List.mem_of_getElem? (i := k) (by rw [List.getElem?_set, if_pos rfl, if_pos (by rw [HLEN.out]; exact hkn)]))
                have hws := wait_step (row.xs.set k true) HM.out.hp hn64 HM.out.hw
                have hnp := nextP_lt p n _ HM.out.hp (pkf_range n p (row.xs.set k true) (by omega) n)
                have hka : (ag (row.xs.set k true) (pkf n p (row.xs.set k true) n) ages n)[k]? = some (agv true k (pkf n p (row.xs.set k true) n) wt) := by
                  rw [ag_all _ _ _ _ HM.out.hw.1, HM.out.hk, hys]; rfl
                generalize row.xs.set k true = ys at *
                generalize pkf n p ys n = ch at *
                generalize nextP p n ch = p2 at *
                generalize ag ys ch ages n = ages2 at *
                have HPK := Lib.hid PK; have HWS := Lib.hid hws; have HKA := Lib.hid hka; have HUW := Lib.hid uw
                clear PK hws hys hka uw
                refine HPK.out.mono ?_
                rintro e w5 ⟨rfl, hm5⟩
                have HM5 := Lib.hid hm5; clear hm5
                obtain ⟨wt2, hwt2⟩ : ∃ wt2, agv true k ch wt = wt2 := ⟨_, rfl⟩
                have F5 : Hid (FairMem W B n p2 k ages2 wt2 w5) :=
                  ⟨HM5.out.1, hnp, HWS.out, by rw [HKA.out, hwt2], Upd.below (Upd.below HM.out.bel HUW.out HM.out.bel.size (fun i hi => hi.elim)) HM5.out.2.2.1 (by have := HM.out.bel.size; have := HUW.out.size; omega) (by intro i hi; omega)⟩
                have hwb := F5.out.hw.lt F5.out.hk
                obtain ⟨hwb0, hwb1⟩ := hwb
                have AG := Lib.hid (ages_any w5 (B + 1) B p2 ages2 F5.out.h1 (by rw [F5.out.hw.1]; omega))
                have hsl : Hid (if ch = k then wt2 = 0 else wt2 = wt + 1) := by
                  show (if ch = k then wt2 = 0 else wt2 = wt + 1)
                  rw [← hwt2]
                  unfold agv
                  by_cases h : ch = k
                  · subst h; simp
                  · rw [if_neg h]
                    have : ((k : Int) != ch) = true := by rw [bne_iff_ne]; omega
                    simp only [this, Bool.and_self, if_true]
                    rw [if_neg (by omega)]
                clear hwt2
                have hages : Hid (∀ a ∈ ages2, 0 ≤ a ∧ a < (n : Int)) := by
                  show ∀ a ∈ ages2, _
                  intro a ha
                  obtain ⟨i, hi, rfl⟩ := List.mem_iff_getElem.1 ha
                  exact HWS.out.lt (List.getElem?_eq_getElem hi)
                by_cases hck : ch = k
                all_goals
                  have hw2 := hsl.out
                  simp only [hck, if_true, if_false] at hw2
                  have HW2 := Lib.hid hw2; clear hw2
                  first | (have hcb : (ch == (k : Int)) = true := by simp [hck]) | (have hcb : (ch == (k : Int)) = false := by simp [hck])
                  clear hck
                  go_wp2_with fail
                  refine AG.out.mono ?_
                  rintro e w6 ⟨v, rfl, hv, hb⟩
                  have hl2 : ages2.length = n := HWS.out.1
                  obtain ⟨g2, sp2, c2, rfl, hg2, hbk2⟩ := hv.pos (by intro e; rw [e] at hl2; simp at hl2; omega)
                  rw [hl2]
                  have hck2 := hbk2.slL k wt2 F5.out.hk
                  rw [adr_mk, Nat.zero_add] at hck2
                  have hck3 := hck2.2
                  rw [HW2.out] at hck3 hwb0 hwb1
                  have F6 := Lib.hid (F5.out.upd hb)
                  have S6 := Lib.hid (Blk.slL hbk2)
                  have HL2 := Lib.hid hl2
                  clear hv hb hbk2 hck2 hl2 hg2
                  go_wp2_with fail
                  go_loop [109] (fun i => ∃ q : Nat, q ≤ n ∧ i = .int .i64 q) (fun i => n - (intOf i).toNat)
                  case atStart => exact ⟨0, Nat.zero_le _, rfl⟩
                  case round =>
                    obtain ⟨q, hq, rfl⟩ := hrel
                    by_cases hqn : q < n
                    · obtain ⟨a, ea, oka, ca⟩ := S6.out.get (k := q) (by rw [HL2.out]; exact hqn)
                      rw [adr_mk, Nat.zero_add] at ca
                      have hab := hages.out a (List.mem_of_getElem? ea.out)
                      obtain ⟨ha0, ha1⟩ := hab
                      go_wp2_with fail
                      go_round
                      case rel => exact ⟨q + 1, by omega, by go_num⟩
                      case measure => simp [intOf]; omega
                    · obtain rfl : q = n := by omega
                      go_wp2_with fail
                      go_roundw
                      case rel => exact ⟨j + 1, by omega, by go_num, p2, ages2, wt2, by rw [HW2.out], F6.out⟩
                      case measure => simp [intOf]; omega
              · have hne : ((row.xs.length : Int) != (n : Int)) = true := by rw [bne_iff_ne]; omega
                clear hlen
                go_wp2_with fail
                go_roundw
                case rel => exact ⟨j + 1, by omega, by go_num, p, ages, wt, rfl, HM.out⟩
                case measure => simp [intOf]; omega
            · obtain rfl : j = l.length := by omega
              go_wp2_with fail
              go_ret
              exact ⟨rfl, HM.out.bel⟩
end Go.Proofs.Ythjlknomaoolaaa
