/-
  The walk of the law ArbiterPicks.
-/
import Derived.Test.YthjlknomaoolaaaMore
import Derived.Test.YthjlknomaoolaaaAwake
import Derived.Test.YthjlknomaoolaaaPlain
namespace Go.Proofs.Ythjlknomaoolaaa
open Go.RowKit

structure PicksMem (W : World) (B n p : Nat) (ages : List Int) (w : World) : Prop where
  h1 : ArbAt 55 w (B + 1) B p ages
  h2 : ArbAt 46 w (B + 3) (B + 2) p ages
  hp : p < n
  hl : ages.length = n
  hb : ∀ a ∈ ages, 0 ≤ a ∧ a ≤ 1073741824
  bel : Below W.heap.size W w

theorem PicksMem.below {W : World} {B n p : Nat} {ages : List Int} {w w' : World} (h : PicksMem W B n p ages w) (b : Below w.heap.size w w') : PicksMem W B n p ages w' :=
  have u : Upd (fun _ => False) w w' := Upd.of_below b
  ⟨h.h1.upd u id id, h.h2.upd u id id, h.hp, h.hl, h.hb, h.bel.trans (b.mono h.bel.size)⟩
theorem PicksMem.drewN {W : World} {B n p : Nat} {ages : List Int} {w : World} (h : PicksMem W B n p ages w) (m : Nat) : PicksMem W B n p ages (w.drewN m) := h.below ((Qt.refl w).drewN m |>.below _)
theorem PicksMem.drew {W : World} {B n p : Nat} {ages : List Int} {w : World} (h : PicksMem W B n p ages w) : PicksMem W B n p ages w.drew := h.drewN 1
def PicksS (W : World) (B n p : Nat) (ages : List Int) (w : World) : Prop :=
  w.cell? ⟨B + 3, 0, none⟩ = some (.int .i64 p) ∧ w.cell? ⟨B + 3, 1, none⟩ = some (.slice (some ⟨B + 2, 0, none⟩) ages.length ages.length) ∧ PicksMem W B n p ages w
theorem PicksMem.s {W : World} {B n p : Nat} {ages : List Int} {w : World} (h : PicksMem W B n p ages w) : PicksS W B n p ages w := ⟨h.h2.hb.cell rfl, h.h2.hb.cell rfl, h⟩

def PicksRel (W : World) (B n len : Nat) (i : Value) (w : World) : Prop := ∃ k : Nat, k ≤ len ∧ i = .int .i64 k ∧ ∃ p ages, PicksMem W B n p ages w

set_option maxHeartbeats 1000000 in
set_option maxRecDepth 100000 in
theorem arbiterPicks_walk (W : World) (n0 : Int) (_ : (Lit.int .i64 n0).wf = true) (a1 : Option Addr) (c1 : Nat) (l : List (RowOf Bool)) (s1 : Sl RowOf.val W a1 l)
    (g1 : ∀ r ∈ l, SlB W (RowOf.a r) r.xs ∧ (∀ y ∈ r.xs, True) ∧ r.xs.length ≤ maxLen) (m1 : l.length ≤ maxLen) :
    Calls Try.prog 9 #[.int .i64 n0, .slice a1 l.length c1] W fun e W' => e = .returned (.bool true) ∧ Below W.heap.size W W' := by
  have AW := awake_ok W
  have HAW := Lib.hid AW
  have GR := fun w (h : Below W.heap.size W w) => great_any w a1 c1 l (s1.below h) m1
  have HGR := Lib.hid GR
  have S1 := Lib.hid s1; have G1 := Lib.hid g1; have M1 := Lib.hid m1
  clear AW GR s1 g1 m1
  go_enter Try.func9, Try.ntmps9
  go_wp2_with fail
  refine HAW.out.mono ?_
  rintro e w1 ⟨rfl, hb⟩
  have B1 := Lib.hid hb; clear hb
  go_wp2_with fail
  refine (HGR.out w1 B1.out).mono ?_
  rintro e w2 ⟨r, rfl, hr, hw⟩
  subst hw
  have HR := Lib.hid hr; clear hr
  cases r with
  | true =>
    go_wp2_with fail
    go_ret
    exact ⟨rfl, B1.out⟩
  | false =>
    have hsm := HR.out rfl
    have hl100 := hsm.2
    have HSM := Lib.hid hsm.1
    clear hsm
    by_cases hbad : n0 < 1 ∨ 64 < n0
    · have NB := Lib.hid (new_bad n0 w2 hbad)
      rcases hbad with hbad | hbad
      all_goals
        (try have hnn : ¬ n0 < 1 := by omega)
        go_wp2_with fail
        refine NB.out.mono ?_
        rintro e w3 ⟨rfl, rfl⟩
        go_wp2_with fail
        go_ret
        exact ⟨rfl, B1.out⟩
    · obtain ⟨n, rfl⟩ : ∃ n : Nat, n0 = n := ⟨n0.toNat, by omega⟩
      have hn1 : 1 ≤ n := by omega
      have hn2 : n ≤ 64 := by omega
      have d1 : ¬ (n : Int) < 1 := by omega
      have d2 : ¬ (64 : Int) < n := by omega
      clear hbad
      have NO := Lib.hid (new_ok n w2 hn1 hn2)
      have hmk := fun w => make_ints w n (by omega)
      generalize hL : (List.replicate n (0 : Int)).map (Value.int .i64) = L at hmk
      have HL := Lib.hid hL; clear hL
      go_wp2_with fail
      refine NO.out.mono ?_
      rintro e w3 ⟨rfl, hA, hB, hz⟩
      have A0 := Lib.hid hA; have B3 := Lib.hid (B1.out.trans (hB.mono B1.out.size)); have Z0 := Lib.hid hz; clear hA hB hz
      go_wp2_with fail
      have R0 : Hid (PicksMem W w2.heap.size n 0 (List.replicate n 0) ((w3.alloc (.cells L.toArray 3)).alloc (.cells #[.int .i64 0, .slice (some ⟨w3.heap.size, 0, none⟩) n n] 46))) := by
        have e2 := Z0.out
        have u : Upd (fun _ => False) w3 ((w3.alloc (.cells L.toArray 3)).alloc (.cells #[.int .i64 0, .slice (some ⟨w3.heap.size, 0, none⟩) n n] 46)) := ((Upd.refl _ _).alloc _).alloc _
        refine ⟨A0.out.upd u id id, ⟨?_, ?_, by omega⟩, by omega, by simp, by simp, Upd.below B3.out u B3.out.size (fun i hi => hi.elim)⟩
        · have := Blk.new (w3.alloc (.cells L.toArray 3)) 46 [.int .i64 0, .slice (some ⟨w3.heap.size, 0, none⟩) n n]
          rw [← e2]
          simpa [e2] using this
        · rw [← e2, HL.out]
          exact (Blk.new w3 3 L).alloc _
      rw [show w3.heap.size + 1 = w2.heap.size + 3 from by rw [Z0.out]]
      have hB : W.heap.size ≤ w2.heap.size := B1.out.size
      generalize w2.heap.size = B at *
      clear hmk
      go_loopw [45] (fun i wr => PicksRel W B n l.length i wr) (fun i _ => l.length - (intOf i).toNat)
      case atStart => exact ⟨0, Nat.zero_le _, rfl, _, _, R0.out⟩
      case round =>
        obtain ⟨k, hk, rfl, p, ages, hm⟩ := hrel
        have HM := Lib.hid hm; clear hm
        by_cases hlt : k < l.length
        · obtain ⟨row, er, okr, cr⟩ := (S1.out.below HM.out.bel).get (k := k) hlt
          unfold RowOf.val at cr
          have hrow := G1.out row (List.mem_of_getElem? er.out)
          have hsl := hrow.1.below HM.out.bel
          have HSL := Lib.hid hsl
          have hold : row.xs ≠ [] → (row.a.getD default).block < W.heap.size := hrow.1.old
          clear hsl hrow
          by_cases hlen : row.xs.length = n
          · have hold' := hold (by intro e; rw [e] at hlen; simp at hlen; omega)
            have P1 := pick_any wr row.a (B + 1) B p n row.c ages row.xs HM.out.h1 HSL.out HM.out.hp hn1 hn2 HM.out.hl hlen HM.out.hb ⟨by omega, by omega⟩
            have HP1 := Lib.hid P1
            clear P1 hold
            rw [hlen] at cr
            have hne : ((n : Int) == (n : Int)) = true := by simp
            have HLEN := Lib.hid hlen; clear hlen
            go_wp2_with fail
            refine HP1.out.mono ?_
            rintro e w4 ⟨rfl, hm1⟩
            have HM1 := Lib.hid hm1; clear hm1
            have P2 := refpick_any w4 row.a (B + 3) (B + 2) p n row.c ages row.xs (HM.out.h2.upd HM1.out.2.2.1 (by omega) (by omega)) HM1.out.2.1 HM.out.hp hn1 hn2 HM.out.hl HLEN.out HM.out.hb ⟨by omega, by omega⟩
            have HP2 := Lib.hid P2; clear P2
            go_wp2_with fail
            refine HP2.out.mono ?_
            rintro e w5 ⟨rfl, hm2⟩
            have HM2 : Hid (PicksMem W B n (nextP p n (pkf n p row.xs n)) (ag row.xs (pkf n p row.xs n) ages n) w5) :=
              ⟨HM1.out.1.upd hm2.2.2.1 (by omega) (by omega), hm2.1, nextP_lt _ _ _ HM.out.hp (pkf_range n p row.xs (by omega) n), by rw [ag_len, HM.out.hl], ag_bd _ _ _ HM.out.hb _,
                Upd.below (Upd.below HM.out.bel HM1.out.2.2.1 HM.out.bel.size (by intro i hi; omega)) hm2.2.2.1 (by have := HM.out.bel.size; have := HM1.out.2.2.2; omega) (by intro i hi; omega)⟩
            clear hm2
            generalize pkf n p row.xs n = ch at *
            generalize nextP p n ch = p2 at *
            generalize ag row.xs ch ages n = ages2 at *
            go_wp2_with fail
            have S0 := HM2.out.s
            obtain ⟨u1, u2, u3⟩ := S0
            have hl4 : ages2.length ≤ 1000000000 := by have := HM2.out.hl; omega
            have hl3 : ages2.length ≤ 1000 := by have := HM2.out.hl; omega
            go_region_held3 (fun w' => w'.cell? ⟨B + 3, 0, none⟩ = some (.int .i64 p2) ∧ w'.cell? ⟨B + 3, 1, none⟩ = some (.slice (some ⟨B + 2, 0, none⟩) ages2.length ages2.length) ∧ PicksMem W B n p2 ages2 w')
              ((go_split_ands; first | exact (PicksMem.drew (by assumption)).s | exact (PicksMem.below (by assumption) (by assumption)).s | exact PicksMem.s (by assumption) | go_keep))
              (first
                | (go_at_call 20; go_split_ands; refine (next_any _ (B + 1) B p2 ages2 (PicksMem.h1 (by assumption))).mono ?_; rintro e w' ⟨rfl, rfl⟩)
                | (go_at_call 19; go_split_ands; refine (ages_any _ (B + 1) B p2 ages2 (PicksMem.h1 (by assumption)) hl3).mono ?_; rintro e w' ⟨v, rfl, hv, hb⟩; obtain ⟨av, cv, rfl, hv'⟩ := hv; have hsl : SlI w' av ages2 := Rw.sl ⟨av, cv, rfl, hv'⟩; clear hv')
                | (go_at_call 22; go_split_ands; refine (equalInt_any _ _ _ _ _ ages2 ages2 (by assumption) (Blk.sl (ArbAt.hc (PicksMem.h2 (by assumption)))) hl4).mono ?_; rintro e w' ⟨rfl, hq⟩; have hb := hq.bel))
            go_wp2_with fail
            go_roundw
            case rel => exact ⟨k + 1, by omega, by go_num, p2, ages2, by go_split_ands; assumption⟩
            case measure => simp [intOf]; omega
          · have P1 := pick_bad wr row.a (B + 1) B p row.xs.length row.c ages HM.out.h1 (by rw [HM.out.hl]; omega) (by rw [HM.out.hl]; exact hlen)
            have HP1 := Lib.hid P1
            clear P1 hold
            have hne : ((row.xs.length : Int) == (n : Int)) = false := by simp; omega
            clear hlen
            go_wp2_with fail
            refine HP1.out.mono ?_
            rintro e w4 ⟨rfl, rfl⟩
            obtain ⟨u1, u2, u3⟩ := HM.out.s
            have hl3 : ages.length ≤ 1000 := by have := HM.out.hl; omega
            have hl4 : ages.length ≤ 1000000000 := by have := HM.out.hl; omega
            go_wp2_with fail
            go_region_held3 (fun w' => w'.cell? ⟨B + 3, 0, none⟩ = some (.int .i64 p) ∧ w'.cell? ⟨B + 3, 1, none⟩ = some (.slice (some ⟨B + 2, 0, none⟩) ages.length ages.length) ∧ PicksMem W B n p ages w')
              ((go_split_ands; first | exact (PicksMem.drew (by assumption)).s | exact (PicksMem.below (by assumption) (by assumption)).s | exact PicksMem.s (by assumption) | go_keep))
              (first
                | (go_at_call 20; go_split_ands; refine (next_any _ (B + 1) B p ages (PicksMem.h1 (by assumption))).mono ?_; rintro e w' ⟨rfl, rfl⟩)
                | (go_at_call 19; go_split_ands; refine (ages_any _ (B + 1) B p ages (PicksMem.h1 (by assumption)) hl3).mono ?_; rintro e w' ⟨v, rfl, hv, hb⟩; obtain ⟨av, cv, rfl, hv'⟩ := hv; have hsl : SlI w' av ages := Rw.sl ⟨av, cv, rfl, hv'⟩; clear hv')
                | (go_at_call 22; go_split_ands; refine (equalInt_any _ _ _ _ _ ages ages (by assumption) (Blk.sl (ArbAt.hc (PicksMem.h2 (by assumption)))) hl4).mono ?_; rintro e w' ⟨rfl, hq⟩; have hb := hq.bel))
            go_wp2_with fail
            go_roundw
            case rel => exact ⟨k + 1, by omega, by go_num, p, ages, by go_split_ands; assumption⟩
            case measure => simp [intOf]; omega
        · obtain rfl : k = l.length := by omega
          go_wp2_with fail
          go_ret
          exact ⟨rfl, HM.out.bel⟩
end Go.Proofs.Ythjlknomaoolaaa
