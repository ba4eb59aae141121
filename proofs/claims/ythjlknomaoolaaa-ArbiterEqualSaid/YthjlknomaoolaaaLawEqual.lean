/-
  The walk of the law ArbiterEqual.
-/
import Derived.Test.YthjlknomaoolaaaMoreB
import Derived.Test.YthjlknomaoolaaaAwake
import Derived.Test.YthjlknomaoolaaaPlainB
namespace Go.Proofs.Ythjlknomaoolaaa
open Go.RowKit

structure EqMem (W : World) (B n p : Nat) (ages : List Int) (w : World) : Prop where
  h1 : ArbAt 55 w (B + 1) B p ages
  hp : p < n
  hl : ages.length = n
  hb : ∀ a ∈ ages, 0 ≤ a ∧ a ≤ 1073741824
  sz : B + 2 ≤ w.heap.size
  bel : Below W.heap.size W w
theorem EqMem.pick {W : World} {B n p : Nat} {ages : List Int} {w w' : World} {ar : Option Addr} {rs : List Bool} (h : EqMem W B n p ages w) (hBW : W.heap.size ≤ B)
    (hm : PkMem 55 w ar (B + 1) B (nextP p n (pkf n p rs n)) (ag rs (pkf n p rs n) ages n) rs w') : EqMem W B n (nextP p n (pkf n p rs n)) (ag rs (pkf n p rs n) ages n) w' :=
  ⟨hm.1, nextP_lt _ _ _ h.hp (pkf_range n p rs (by have := h.hp; omega) n), by rw [ag_len, h.hl], ag_bd _ _ _ h.hb _, by rw [hm.2.2.2]; exact h.sz,
    Upd.below h.bel hm.2.2.1 h.bel.size (by intro i hi; omega)⟩
def EqRel1 (W : World) (B n len : Nat) (i : Value) (w : World) : Prop := ∃ k : Nat, k ≤ len ∧ i = .int .i64 k ∧ ∃ p ages, EqMem W B n p ages w
def EqRel2 (W : World) (B g n p0 t : Nat) (rs : List Bool) (i : Value) (w : World) : Prop := ∃ k : Nat, k ≤ t ∧ i = .int .i64 k ∧ ∃ p ages q cnt, EqMem W B n p ages w ∧ eqInv n p0 p rs q k cnt ∧ Blk w g 3 (cnt.map (Value.int .i64))
def EqRel3 (n : Nat) (q : Int) (lo hi i : Value) : Prop := ∃ k : Nat, k ≤ n ∧ i = .int .i64 k ∧ ∃ a b : Int, lo = .int .i64 a ∧ hi = .int .i64 b ∧ q ≤ a ∧ a ≤ 1000 ∧ 0 ≤ b ∧ b ≤ q + 1

set_option maxHeartbeats 2000000 in
set_option maxRecDepth 100000 in
theorem arbiterEqual_walk (W : World) (a0 : Option Addr) (c0 : Nat) (x : List Bool) (s0 : SlB W a0 x) (_ : ∀ y ∈ x, True) (_ : x.length ≤ maxLen)
    (a1 : Option Addr) (c1 : Nat) (l : List (RowOf Bool)) (s1 : Sl RowOf.val W a1 l) (g1 : ∀ r ∈ l, SlB W (RowOf.a r) r.xs ∧ (∀ y ∈ r.xs, True) ∧ r.xs.length ≤ maxLen) (m1 : l.length ≤ maxLen)
    (pk : Int) (wp : (Lit.int .u16 pk).wf = true) :
    Calls Try.prog 5 #[.slice a0 x.length c0, .slice a1 l.length c1, .int .u16 pk] W fun e W' => e = .returned (.bool true) ∧ Below W.heap.size W W' := by
  have HAW := Lib.hid (awake_ok W)
  have HGR := Lib.hid fun w (h : Below W.heap.size W w) => great_any w a1 c1 l (s1.below h) m1
  have hpk : 0 ≤ pk ∧ pk ≤ 65535 := by simpa [Lit.wf, IntKind.min, IntKind.max, IntKind.signed, IntKind.bits] using wp
  obtain ⟨hk0, hk1⟩ := hpk
  have S0 := Lib.hid s0; have S1 := Lib.hid s1; have G1 := Lib.hid g1
  have OLD0 := Lib.hid s0.old
  clear wp s0 s1 g1 m1
  generalize hn : x.length = n at *
  have HN := Lib.hid hn; clear hn
  by_cases hbad : (n : Int) < 1 ∨ 64 < (n : Int)
  · rcases hbad with hbad | hbad
    all_goals
      (try have hnn : ¬ (n : Int) < 1 := by omega)
      go_enter Try.func5, Try.ntmps5
      go_wp2_with fail
      refine HAW.out.mono ?_
      rintro e w1 ⟨rfl, hb⟩
      have B1 := Lib.hid hb; clear hb
      go_wp2_with fail
      go_ret
      exact ⟨rfl, B1.out⟩
  have hn1 : 1 ≤ n := by omega
  have hn64 : n ≤ 64 := by omega
  have hg1 : ¬ (n : Int) < 1 := by omega
  have hg2 : ¬ 64 < (n : Int) := by omega
  clear hbad
  have hB1 : decide ((n : Int) < 1) = false := by simpa using hg1
  have hB64 : decide ((64 : Int) < (n : Int)) = false := by simpa using hg2
  obtain ⟨t, ht⟩ : ∃ t : Nat, pk % 301 = t := ⟨(pk % 301).toNat, by omega⟩
  have htb : t ≤ 300 := by omega
  have hmk := fun w => make_ints w n (by omega)
  generalize hL : (List.replicate n (0 : Int)).map (Value.int .i64) = L at hmk
  have HL := Lib.hid hL; clear hL
  go_enter Try.func5, Try.ntmps5
  go_wp2_with fail
  refine HAW.out.mono ?_
  rintro e w1 ⟨rfl, hb⟩
  have B1 := Lib.hid hb; clear hb
  go_wp2_with fail
  refine (HGR.out w1 B1.out).mono ?_
  rintro e w2 ⟨r, rfl, hr, hw⟩
  subst hw
  have HR := Lib.hid hr; clear hr
  cases r with
  | true =>
    go_wp2_with fail
    go_ret
    exact ⟨rfl, B1.out⟩
  | false =>
    have hsm := HR.out rfl
    have hl100 := hsm.2
    clear hsm HR
    have NO := Lib.hid (new_ok n w2 hn1 hn64)
    go_wp2_with fail
    refine NO.out.mono ?_
    rintro e w3 ⟨rfl, hA, hB, hz⟩
    have F0 : Hid (EqMem W w2.heap.size n 0 (List.replicate n 0) w3) := ⟨hA, by omega, by simp, by simp, by omega, B1.out.trans (hB.mono B1.out.size)⟩
    have hBW : W.heap.size ≤ w2.heap.size := B1.out.size
    clear hA hB hz
    go_wp2_with fail
    generalize w2.heap.size = B at *
    go_loopw [46] (fun i wr => EqRel1 W B n l.length i wr) (fun i _ => l.length - (intOf i).toNat)
    case atStart => exact ⟨0, Nat.zero_le _, rfl, _, _, F0.out⟩
    case round =>
      obtain ⟨k, hk, rfl, p, ages, hm⟩ := hrel
      have HM := Lib.hid hm; clear hm
      by_cases hlt : k < l.length
      · obtain ⟨row, er, okr, cr⟩ := (S1.out.below HM.out.bel).get (k := k) hlt
        unfold RowOf.val at cr
        have hrow := G1.out row (List.mem_of_getElem? er.out)
        have HSL := Lib.hid (hrow.1.below HM.out.bel)
        have hold : row.xs ≠ [] → (row.a.getD default).block < W.heap.size := hrow.1.old
        clear hrow
        by_cases hlen : row.xs.length = n
        · have hold' := hold (by intro e; rw [e] at hlen; simp at hlen; omega)
          have P1 := Lib.hid (pick_any wr row.a (B + 1) B p n row.c ages row.xs HM.out.h1 HSL.out HM.out.hp hn1 hn64 HM.out.hl hlen HM.out.hb ⟨by omega, by omega⟩)
          rw [hlen] at cr
          clear hold hlen
          go_wp2_with fail
          refine P1.out.mono ?_
          rintro e w4 ⟨rfl, hm1⟩
          have M4 := Lib.hid (HM.out.pick hBW hm1); clear hm1
          go_wp2_with fail
          go_roundw
          case rel => exact ⟨k + 1, by omega, by go_num, _, _, M4.out⟩
          case measure => simp [intOf]; omega
        · have P1 := Lib.hid (pick_bad wr row.a (B + 1) B p row.xs.length row.c ages HM.out.h1 (by rw [HM.out.hl]; omega) (by rw [HM.out.hl]; exact hlen))
          clear hold hlen
          go_wp2_with fail
          refine P1.out.mono ?_
          rintro e w4 ⟨rfl, rfl⟩
          go_wp2_with fail
          go_roundw
          case rel => exact ⟨k + 1, by omega, by go_num, p, ages, HM.out⟩
          case measure => simp [intOf]; omega
      · obtain rfl : k = l.length := by omega
        obtain ⟨wo, rfl⟩ : ∃ wo : World, wo = wr := ⟨_, rfl⟩
        have hgB := HM.out.sz
        have hold0 := OLD0.out (by intro e; have := HN.out; rw [e] at this; simp at this; omega)
        go_wp2_with fail
        have R0 : Hid (EqRel2 W B wo.heap.size n p t x (.int .i64 0) (wo.alloc (.cells L.toArray 3))) := by
          refine ⟨0, by omega, rfl, p, ages, 0, List.replicate n 0, ⟨HM.out.h1.upd (S := fun _ => False) ((Upd.refl _ _).alloc _) id id, HM.out.hp, HM.out.hl, HM.out.hb, by simp; omega, HM.out.bel.alloc HM.out.bel.size _⟩, eq_zero n p x, ?_⟩
          rw [HL.out]
          exact Blk.new wo 3 L
        generalize wo.heap.size = g at *
        have hp0 := HM.out.hp
        clear hmk
        rw [ht]
        clear ht
        go_loopw [59] (fun i wr => EqRel2 W B g n p t x i wr) (fun i _ => t - (intOf i).toNat)
        case atStart => exact R0.out
        case round =>
          obtain ⟨j, hj, rfl, p2, ages2, q, cnt, hm2, hinv, hbk⟩ := hrel
          have HM2 := Lib.hid hm2; have HINV := Lib.hid hinv; have HBK := Lib.hid hbk
          clear hm2 hinv hbk
          by_cases hjt : j < t
          · have P1 := Lib.hid (pick_any wr a0 (B + 1) B p2 n c0 ages2 x HM2.out.h1 (S0.out.below HM2.out.bel) HM2.out.hp hn1 hn64 HM2.out.hl HN.out HM2.out.hb ⟨by omega, by omega⟩)
            have hmem := pkf_mem x HM2.out.hp HN.out
            rcases pkf_all x HM2.out.hp with ⟨h1, _⟩ | ⟨c, hc, h1, hrc, hmin⟩
            · rw [h1] at hmem
              have hdec : Hid (decide (true ∈ x) = false) := by
                show _ = _
                rw [decide_eq_false_iff_not, ← hmem]
                omega
              have M4' := Lib.hid fun w4 (hm1 : PkMem 55 wr a0 (B + 1) B (nextP p2 n (pkf n p2 x n)) (ag x (pkf n p2 x n) ages2 n) x w4) => (HM2.out.pick hBW hm1).bel
              rw [h1] at P1 M4'
              clear hmem h1
              go_wp2_with fail
              refine P1.out.mono ?_
              rintro e w4 ⟨rfl, hm1⟩
              have B4 := Lib.hid (M4'.out w4 hm1); clear hm1
              have CB := Lib.hid (containsBool_any w4 a0 c0 x true (S0.out.below B4.out) (by rw [HN.out]; omega))
              rw [HN.out, hdec.out] at CB
              go_wp2_with fail
              refine CB.out.mono ?_
              rintro e w5 ⟨rfl, rfl⟩
              go_wp2_with fail
              go_ret
              exact ⟨rfl, B4.out⟩
            · have M4' := Lib.hid fun w4 (hm1 : PkMem 55 wr a0 (B + 1) B (nextP p2 n (pkf n p2 x n)) (ag x (pkf n p2 x n) ages2 n) x w4) => HM2.out.pick hBW hm1
              rw [h1] at P1 M4'
              have hstep := eq_step hp0 HM2.out.hp hc HINV.out hrc hmin
              rw [← nextP_eq (p := p2)] at hstep
              have HST := Lib.hid hstep
              have hcl : c < cnt.length := by rw [HINV.out.1]; exact hc
              have hcb := HINV.out.2.2.2.1 c cnt[c] (List.getElem?_eq_getElem hcl)
              have hgd : cnt.getD c 0 = cnt[c] := by rw [List.getD_eq_getElem?_getD, List.getElem?_eq_getElem hcl]; rfl
              rw [hgd] at HST
              have BK4 := Lib.hid fun w4 (hm1 : PkMem 55 wr a0 (B + 1) B (nextP p2 n (c : Int)) (ag x (c : Int) ages2 n) x w4) => HBK.out.upd hm1.2.2.1 (by omega)
              have hcell : (cnt.map (Value.int .i64))[c]? = some (.int .i64 cnt[c]) := by rw [List.getElem?_map, List.getElem?_eq_getElem hcl]; rfl
              have HCELL := Lib.hid hcell
              generalize cnt[c] = cv at *
              generalize nextP p2 n (c : Int) = p3 at *
              generalize ag x (c : Int) ages2 n = ages3 at *
              obtain ⟨hcb0, hcb1⟩ := hcb
              have hcn : (c : Int) < (n : Int) := by omega
              have hc0 : ¬ (c : Int) < 0 := by omega
              have hc2 : ¬ (n : Int) ≤ (c : Int) := by omega
              clear h1 hmem hrc hmin hstep hgd hcell
              go_wp2_with fail
              refine P1.out.mono ?_
              rintro e w4 ⟨rfl, hm1⟩
              have M4 := Lib.hid (M4'.out w4 hm1)
              have K4 := Lib.hid (BK4.out w4 hm1)
              clear hm1
              have cc := K4.out.cell HCELL.out
              have fc := K4.out.free c
              go_wp2_with fail
              go_roundw
              case rel =>
                obtain ⟨q', hq'⟩ := HST.out
                refine ⟨j + 1, by omega, by go_num, p3, ages3, q', _, ⟨M4.out.h1.upd (S := fun k => k = g) ((Upd.refl _ _).setCell _ _ (fun _ => rfl)) (by omega) (by omega), M4.out.hp, M4.out.hl, M4.out.hb, by rw [World.size_setCell]; exact M4.out.sz, M4.out.bel.setCell (p := ⟨g, c, none⟩) (by show _ ≤ g; omega) _⟩, hq', ?_⟩
                rw [List.map_set]
                exact K4.out.set c _
              case measure => simp [intOf]; omega
          · obtain rfl : j = t := by omega
            have hinv := HINV.out
            obtain ⟨hcl, hq0, hqt, hcb, hcv⟩ := hinv
            have HCB := Lib.hid hcb; have HCV := Lib.hid hcv; have HCL := Lib.hid hcl
            clear hcb hcv hcl
            go_wp2_with fail
            go_loop [15, 16, 88] (fun lo hi i => EqRel3 n q lo hi i) (fun _ _ i => n - (intOf i).toNat)
            case atStart => exact ⟨0, Nat.zero_le _, rfl, 1000, 0, rfl, rfl, by omega, by omega, by omega, by omega⟩
            case round =>
              obtain ⟨m, hm, rfl, a, b, rfl, rfl, u1, u2, u3, u4⟩ := hrel
              by_cases hmn : m < n
              · have hml : m < cnt.length := by rw [HCL.out]; exact hmn
                have cm := HBK.out.cell (i := m) (v := .int .i64 cnt[m]) (by rw [List.getElem?_map, List.getElem?_eq_getElem hml]; rfl)
                have hcb := HCB.out m cnt[m] (List.getElem?_eq_getElem hml)
                have hcv := HCV.out m cnt[m] (List.getElem?_eq_getElem hml)
                obtain ⟨bb, eb, okb, cb⟩ := (S0.out.below HM2.out.bel).get (k := m) (by rw [HN.out]; exact hmn)
                rw [List.getD_eq_getElem?_getD, eb.out, Option.getD_some] at hcv
                generalize cnt[m] = cv at *
                obtain ⟨hcb0, hcb1⟩ := hcb
                cases bb with
                | true =>
                  have hq1 : q ≤ cv := by rw [hcv, if_pos rfl]; split <;> omega
                  have hq2 : cv ≤ q + 1 := by rw [hcv, if_pos rfl]; split <;> omega
                  clear hcv
                  go_wp2_with fail
                  go_round
                  case rel => exact ⟨m + 1, by omega, by go_num, _, _, rfl, rfl, by split <;> omega, by split <;> omega, by split <;> omega, by split <;> omega⟩
                  case measure => simp [intOf]; omega
                | false =>
                  have hz : cv = 0 := by rw [hcv]; rfl
                  subst hz
                  clear hcv
                  go_wp2_with fail
                  go_round
                  case rel => exact ⟨m + 1, by omega, by go_num, a, b, rfl, rfl, u1, u2, u3, u4⟩
                  case measure => simp [intOf]; omega
              · by_cases h1000 : a = 1000
                · have hb1 : ((a : Int) == 1000) = true := by simp [h1000]
                  clear h1000
                  go_wp2_with fail
                  go_ret
                  exact ⟨rfl, HM2.out.bel⟩
                · have hb1 : ((a : Int) == 1000) = false := by simp [h1000]
                  have hb2 : b - a ≤ 1 := by omega
                  clear h1000
                  go_wp2_with fail
                  go_ret
                  exact ⟨rfl, HM2.out.bel⟩
end Go.Proofs.Ythjlknomaoolaaa
