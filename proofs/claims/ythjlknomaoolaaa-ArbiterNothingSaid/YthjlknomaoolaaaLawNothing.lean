/-
  The walk of the law ArbiterNothing.
-/
import Derived.Test.YthjlknomaoolaaaMoreB
import Derived.Test.YthjlknomaoolaaaAwake
import Derived.Test.YthjlknomaoolaaaPlain
namespace Go.Proofs.Ythjlknomaoolaaa
open Go.RowKit

structure NoMem (W : World) (B g n p : Nat) (ages : List Int) (sp : List Value) (old : List Int) (w : World) : Prop where
  h1 : ArbAt 55 w (B + 1) B p ages
  hl : ages.length = n
  hb : ∀ a ∈ ages, 0 ≤ a
  hg : Blk w g 3 (old.map (Value.int .i64) ++ sp)
  hB : W.heap.size ≤ B
  hgB : B + 2 ≤ g
  bel : Below W.heap.size W w
theorem NoMem.below {W : World} {B g n p : Nat} {ages : List Int} {sp : List Value} {old : List Int} {w w' : World} (h : NoMem W B g n p ages sp old w) (b : Below w.heap.size w w') : NoMem W B g n p ages sp old w' :=
  have u : Upd (fun _ => False) w w' := Upd.of_below b
  ⟨h.h1.upd u id id, h.hl, h.hb, h.hg.upd u id, h.hB, h.hgB, h.bel.trans (b.mono h.bel.size)⟩
theorem NoMem.drewN {W : World} {B g n p : Nat} {ages : List Int} {sp : List Value} {old : List Int} {w : World} (h : NoMem W B g n p ages sp old w) (m : Nat) : NoMem W B g n p ages sp old (w.drewN m) := h.below ((Qt.refl w).drewN m).bel
theorem NoMem.drew {W : World} {B g n p : Nat} {ages : List Int} {sp : List Value} {old : List Int} {w : World} (h : NoMem W B g n p ages sp old w) : NoMem W B g n p ages sp old w.drew := h.drewN 1
theorem NoMem.set {W : World} {B g n p : Nat} {ages : List Int} {sp : List Value} {old : List Int} {w : World} (h : NoMem W B g n p ages sp old w) {k : Nat} (hk : k < old.length) (v : Int) :
    NoMem W B g n p ages sp (old.set k v) (w.setCell ⟨g, k, none⟩ (.int .i64 v)) :=
  ⟨h.h1.upd (S := fun k => k = g) ((Upd.refl _ _).setCell _ _ (fun _ => rfl)) (by have := h.hgB; omega) (by have := h.hgB; omega), h.hl, h.hb, h.hg.setL hk v, h.hB, h.hgB, h.bel.setCell (p := ⟨g, k, none⟩) (by have := h.hgB; have := h.hB; show _ ≤ g; omega) _⟩

def NoRel (W : World) (B g n p : Nat) (ages : List Int) (sp : List Value) (i : Value) (w : World) : Prop := ∃ k : Nat, k ≤ n ∧ i = .int .i64 k ∧ ∃ old, old.length = n ∧ NoMem W B g n p ages sp old w

set_option maxHeartbeats 2000000 in
set_option maxRecDepth 100000 in
theorem arbiterNothing_walk (W : World) (a0 : Option Addr) (c0 : Nat) (x : List Bool) (s0 : SlB W a0 x) (_ : ∀ y ∈ x, True) (_ : x.length ≤ maxLen)
    (a1 : Option Addr) (c1 : Nat) (y : List Bool) (s1 : SlB W a1 y) (_ : ∀ z ∈ y, True) (_ : y.length ≤ maxLen) :
    Calls Try.prog 10 #[.slice a0 x.length c0, .slice a1 y.length c1] W fun e W' => e = .returned (.bool true) ∧ Below W.heap.size W W' := by
  have HAW := Lib.hid (awake_ok W)
  have OLD0 := Lib.hid s0.old
  have S0 := Lib.hid s0; have S1 := Lib.hid s1
  clear s0 s1
  generalize hn : x.length = n at *
  have HN := Lib.hid hn; clear hn
  by_cases h70 : (70 : Int) < n
  · go_enter Try.func10, Try.ntmps10
    go_wp2_with fail
    refine HAW.out.mono ?_
    rintro e w1 ⟨rfl, hb⟩
    have B1 := Lib.hid hb; clear hb
    go_wp2_with fail
    go_ret
    exact ⟨rfl, B1.out⟩
  by_cases h71 : (70 : Int) < y.length
  · go_enter Try.func10, Try.ntmps10
    go_wp2_with fail
    refine HAW.out.mono ?_
    rintro e w1 ⟨rfl, hb⟩
    have B1 := Lib.hid hb; clear hb
    go_wp2_with fail
    go_ret
    exact ⟨rfl, B1.out⟩
  have PN := Lib.hid fun w => pick_nil w a0 n c0
  have NN := Lib.hid next_nil
  have AN := Lib.hid ages_nil
  go_enter Try.func10, Try.ntmps10
  go_wp2_with fail
  refine HAW.out.mono ?_
  rintro e w1 ⟨rfl, hb⟩
  have B1 := Lib.hid hb; clear hb
  go_wp2_with fail
  refine (PN.out w1).mono ?_
  rintro e w2 ⟨rfl, rfl⟩
  go_wp2_with fail
  refine (NN.out _).mono ?_
  rintro e w3 ⟨rfl, rfl⟩
  go_wp2_with fail
  refine (AN.out _).mono ?_
  rintro e w4 ⟨rfl, rfl⟩
  by_cases hbad : (n : Int) < 1 ∨ 64 < (n : Int)
  · have NB := Lib.hid (new_bad n w4 hbad)
    rcases hbad with hbad | hbad
    all_goals
      (try have hnn : ¬ (n : Int) < 1 := by omega)
      go_wp2_with fail
      refine NB.out.mono ?_
      rintro e w3 ⟨rfl, rfl⟩
      go_wp2_with fail
      go_ret
      exact ⟨rfl, B1.out⟩
  · have hn1 : 1 ≤ n := by omega
    have hn64 : n ≤ 64 := by omega
    clear hbad
    have NO := Lib.hid (new_ok n w4 hn1 hn64)
    go_wp2_with fail
    refine NO.out.mono ?_
    rintro e w3 ⟨rfl, hA, hB, hz⟩
    have hBW : W.heap.size ≤ w4.heap.size := B1.out.size
    have hold := OLD0.out (by intro e; have := HN.out; rw [e] at this; simp at this; omega)
    have B3 := Lib.hid (B1.out.trans (hB.mono B1.out.size))
    have P1 := Lib.hid (pick_any w3 a0 (w4.heap.size + 1) w4.heap.size 0 n c0 (List.replicate n 0) x hA (S0.out.below B3.out) (by omega) hn1 hn64 (by simp) HN.out (by simp) ⟨by omega, by omega⟩)
    have hz3 : w3.heap.size = w4.heap.size + 2 := hz
    clear hA hB hz
    go_wp2_with fail
    refine P1.out.mono ?_
    rintro e w5 ⟨rfl, hm⟩
    have hlen : (ag x (pkf n 0 x n) (List.replicate n 0) n).length = n := by rw [ag_len]; simp
    have hbd := ag_bd x (pkf n 0 x n) (List.replicate n 0) (by simp) n
    have A5 := Lib.hid hm.1
    have B5 := Lib.hid (Upd.below B3.out hm.2.2.1 B3.out.size (by intro i hi; omega))
    have hz5 : w5.heap.size = w4.heap.size + 2 := by rw [hm.2.2.2, hz3]
    clear hm hz3
    generalize nextP 0 n (pkf n 0 x n) = p at *
    generalize ag x (pkf n 0 x n) (List.replicate n 0) n = ages at *
    have NX := Lib.hid (next_any w5 (w4.heap.size + 1) w4.heap.size p ages A5.out)
    have AG := Lib.hid (ages_any w5 (w4.heap.size + 1) w4.heap.size p ages A5.out (by omega))
    have HLEN := Lib.hid hlen; have HBD := Lib.hid hbd
    clear hlen hbd
    go_wp2_with fail
    refine NX.out.mono ?_
    rintro e w6 ⟨rfl, rfl⟩
    go_wp2_with fail
    refine AG.out.mono ?_
    rintro e w7 ⟨v, rfl, hv, hb⟩
    obtain ⟨g, sp, cg, rfl, hg, hbk⟩ := hv.pos (by intro e; have := HLEN.out; rw [e] at this; simp at this; omega)
    have M7 : Hid (NoMem W w4.heap.size g n p ages sp ages w7) :=
      ⟨A5.out.upd (S := fun _ => False) (Upd.of_below hb) id id, HLEN.out, fun a ha => (HBD.out a ha).1, hbk, hBW, by omega, B5.out.trans (hb.mono B5.out.size)⟩
    rw [HLEN.out]
    clear hv hb hbk hg hz5 hold
    generalize w4.heap.size = B at *
    go_upto_if 80 with (fail)
    go_cut [1] (fun v w => ∃ (av : Option Addr) (m cv : Nat), v = .slice av m cv ∧ m ≠ n ∧ NoMem W B g n p ages sp ages w)
    case first =>
      by_cases hyn : y.length = n
      · have hyb : ((y.length : Int) == (n : Int)) = true := by simp [hyn]
        have CL := Lib.hid (cloneBool_any w7 a1 c1 y (S1.out.below M7.out.bel) (by omega))
        have HYN := Lib.hid hyn; clear hyn
        go_wp2_with fail
        refine CL.out.mono ?_
        rintro e w8 ⟨v, rfl, hv, hb⟩
        have OWN := Lib.hid (hv.own)
        have hvs : ∃ av cv, v = .slice av y.length cv := by obtain ⟨a, c, h, _⟩ := hv; exact ⟨a, c, h⟩
        obtain ⟨av, cv, rfl⟩ := hvs
        have M8 := Lib.hid (M7.out.below hb)
        have hs8 := hb.size
        have HB := Lib.hid hb
        obtain ⟨i0, hi, hz0, hz1, hz2⟩ := info_parts Try.infoBool
        have HI := Lib.hid hi; have HZ0 := Lib.hid hz0; have HZ1 := Lib.hid hz1; have HZ2 := Lib.hid hz2
        clear hi hz0 hz1 hz2 hv hb
        go_wp2_with (at_builtin; refine wpList_append_own _ rfl _ _ 23 rfl w7.heap.size 4 i0 _ 1 1 Try.underlying23 HI.out HZ0.out HZ1.out HZ2.out rfl (by decide) _ y.length (y.map Value.bool) rfl ?c0 ⟨w8.heap.size, 0, none⟩ 1 1 [.bool true] rfl ?c1 ?c2 ?c3 ?c4 ?c5 ?c6 ?_)
        case c0 => exact OWN.out.alloc _
        case c1 => rfl
        case c2 => exact cell_one_new _ _ _
        case c3 => intro u hu; simp at hu; subst hu; rfl
        case c4 => unfold maxLen; omega
        case c5 => omega
        case c6 => simp; omega
        intro v' w9 hown hgr hnil
        have hvs : ∃ av cv, v' = .slice av (y.length + 1) cv := by
          obtain ⟨_, h⟩ := hown
          rcases h with ⟨h, h0⟩ | ⟨g, cap, cur, h, _⟩
          · omega
          · exact ⟨_, _, h⟩
        obtain ⟨av', cv', rfl⟩ := hvs
        have hab : ∀ k, (Value.slice av y.length cv).ownBlock = some k → w7.heap.size ≤ k := by
          intro k hk
          obtain ⟨_, h⟩ := OWN.out
          rcases h with ⟨h, h0⟩ | ⟨g, cap, cur, h, hg, _⟩
          · exfalso; have := HYN.out; omega
          · cases h; simp [Value.ownBlock] at hk; omega
        have bel9 : Below w7.heap.size w7 w9 := (HB.out.alloc hs8 _).grown hgr (by simp; omega) hab
        have M9 := Lib.hid (M7.out.below bel9)
        clear hown hgr hnil hab bel9
        go_wp2_with fail
        go_meet
        exact ⟨av', y.length + 1, cv', rfl, by have := HYN.out; omega, M9.out⟩
      · have hyb : ((y.length : Int) == (n : Int)) = false := by rw [beq_eq_false_iff_ne]; omega
        have HYN := Lib.hid hyn; clear hyn
        go_wp2_with fail
        go_meet
        exact ⟨a1, y.length, c1, rfl, HYN.out, M7.out⟩
    case rest =>
      obtain ⟨av, m, cv, rfl, hmn, hM⟩ := hcut
      have HM := Lib.hid hM
      have PB := Lib.hid (pick_bad wc av (B + 1) B p m cv ages hM.h1 (by rw [hM.hl]; omega) (by rw [hM.hl]; exact hmn))
      clear hM hmn
      go_wp2_with fail
      refine PB.out.mono ?_
      rintro e w8 ⟨rfl, rfl⟩
      have hl3 : ages.length ≤ 1000 := by rw [HM.out.hl]; omega
      have hl4 : ages.length ≤ 1000000000 := by rw [HM.out.hl]; omega
      have NX2 := Lib.hid (next_any w8 (B + 1) B p ages HM.out.h1)
      have AG2 := Lib.hid (ages_any w8 (B + 1) B p ages HM.out.h1 hl3)
      go_wp2_with fail
      refine NX2.out.mono ?_
      rintro e w9 ⟨rfl, rfl⟩
      go_wp2_with fail
      refine AG2.out.mono ?_
      rintro e w10 ⟨v, rfl, hv, hb⟩
      have M10 := Lib.hid (HM.out.below hb)
      obtain ⟨av2, cv2, rfl, hv'⟩ := hv
      have EQ := Lib.hid (equalInt_any w10 av2 (some ⟨g, 0, none⟩) cv2 cg ages ages (Rw.sl ⟨av2, cv2, rfl, hv'⟩) (Blk.slL M10.out.hg) hl4)
      rw [HM.out.hl] at EQ
      rw [HM.out.hl]
      have hdt : decide (ages = ages) = true := by simp
      rw [hdt] at EQ
      clear hv' hb hdt
      go_wp2_with fail
      refine EQ.out.mono ?_
      rintro e w11 ⟨rfl, hq⟩
      have M11 := Lib.hid (M10.out.below hq.bel)
      clear hq
      go_wp2_with fail
      go_loopw [111] (fun i wr => NoRel W B g n p ages sp i wr) (fun i _ => n - (intOf i).toNat)
      case atStart => exact ⟨0, Nat.zero_le _, rfl, ages, M11.out.hl, M11.out⟩
      case round =>
        obtain ⟨k, hk, rfl, old, hol, hm⟩ := hrel
        have HM2 := Lib.hid hm; clear hm
        by_cases hkn : k < n
        · have ca := HM2.out.hg.cell (i := k) (v := .int .i64 (old[k]'(by omega))) (by rw [List.getElem?_append_left (by simp; omega), List.getElem?_map, List.getElem?_eq_getElem (by omega)]; rfl)
          have fa := HM2.out.hg.free k
          have HOL := Lib.hid hol
          go_wp2_with fail
          go_roundw
          case rel => exact ⟨k + 1, by omega, by go_num, old.set k (-1), by rw [List.length_set]; exact HOL.out, HM2.out.set (by rw [HOL.out]; exact hkn) (-1)⟩
          case measure => simp [intOf]; omega
        · have AG3 := Lib.hid (ages_any wr (B + 1) B p ages HM2.out.h1 hl3)
          clear hol
          go_wp2_with fail
          refine AG3.out.mono ?_
          rintro e w12 ⟨v, rfl, hv, hb⟩
          have M12 := Lib.hid (HM2.out.below hb)
          obtain ⟨av3, cv3, rfl, hv'⟩ := hv
          have CT := Lib.hid (containsInt_any w12 av3 cv3 ages (-1) (Rw.sl ⟨av3, cv3, rfl, hv'⟩) hl4)
          have hdf : decide ((-1 : Int) ∈ ages) = false := by
            rw [decide_eq_false_iff_not]
            intro h
            have := M12.out.hb _ h
            omega
          rw [hdf] at CT
          clear hv' hb hdf
          go_wp2_with fail
          refine CT.out.mono ?_
          rintro e w13 ⟨rfl, rfl⟩
          go_wp2_with fail
          go_ret
          exact ⟨rfl, M12.out.bel⟩
end Go.Proofs.Ythjlknomaoolaaa
