/-
  The walk of the law ArbiterPatience.
-/
import Derived.Test.YthjlknomaoolaaaMoreB
import Derived.Test.YthjlknomaoolaaaAwake
import Derived.Test.YthjlknomaoolaaaPlainB
namespace Go.Proofs.Ythjlknomaoolaaa
open Go.RowKit

structure PatMem (W : World) (ga gb n : Nat) (ages : List Int) (all : List Bool) (w : World) : Prop where
  ha : Blk w ga 3 (ages.map (Value.int .i64))
  hb : Blk w gb 4 (all.map Value.bool)
  ne : ga ≠ gb
  ba : W.heap.size ≤ ga
  bb : W.heap.size ≤ gb
  la : ages.length = n
  lb : all.length = n
  bel : Below W.heap.size W w
theorem PatMem.upd {W : World} {ga gb n : Nat} {ages : List Int} {all : List Bool} {w w' : World} (h : PatMem W ga gb n ages all w) (b : Below w.heap.size w w') : PatMem W ga gb n ages all w' :=
  have u : Upd (fun _ => False) w w' := Upd.of_below b
  ⟨h.ha.upd u id, h.hb.upd u id, h.ne, h.ba, h.bb, h.la, h.lb, h.bel.trans (b.mono h.bel.size)⟩
theorem PatMem.setA {W : World} {ga gb n : Nat} {ages : List Int} {all : List Bool} {w : World} (h : PatMem W ga gb n ages all w) (k : Nat) (v : Int) : PatMem W ga gb n (ages.set k v) all (w.setCell ⟨ga, k, none⟩ (.int .i64 v)) :=
  ⟨by rw [List.map_set]; exact h.ha.set k _, h.hb.setO _ (Ne.symm h.ne), h.ne, h.ba, h.bb, by rw [List.length_set]; exact h.la, h.lb, h.bel.setCell h.ba _⟩
theorem PatMem.setB {W : World} {ga gb n : Nat} {ages : List Int} {all : List Bool} {w : World} (h : PatMem W ga gb n ages all w) (k : Nat) (v : Bool) : PatMem W ga gb n ages (all.set k v) (w.setCell ⟨gb, k, none⟩ (.bool v)) :=
  ⟨h.ha.setO _ h.ne, by rw [List.map_set]; exact h.hb.set k _, h.ne, h.ba, h.bb, h.la, by rw [List.length_set]; exact h.lb, h.bel.setCell h.bb _⟩

def fillT (n k : Nat) : List Bool := List.replicate k true ++ List.replicate (n - k) false
theorem fillT_succ {n k : Nat} (h : k < n) : (fillT n k).set k true = fillT n (k + 1) := by
  unfold fillT
  rw [List.set_append_right _ _ (by simp), List.length_replicate, Nat.sub_self]
  have : n - k = (n - (k + 1)) + 1 := by omega
  rw [this, List.replicate_succ, List.set_cons_zero, List.replicate_succ']
  simp

def PatRel1 (W : World) (ga gb n : Nat) (i : Value) (w : World) : Prop := ∃ k : Nat, k ≤ n ∧ i = .int .i64 k ∧ PatMem W ga gb n (List.replicate n 0) (fillT n k) w
def PatRel2 (W : World) (ga gb n t : Nat) (p : Int) (i : Value) (w : World) : Prop := ∃ k : Nat, k ≤ t ∧ i = .int .i64 k ∧ ∃ ages, patInv n p ages ∧ PatMem W ga gb n ages (List.replicate n true) w
def PatRel3 (W : World) (ga gb n : Nat) (ages : List Int) (i : Value) (w : World) : Prop := ∃ k : Nat, k ≤ n ∧ i = .int .i64 k ∧ PatMem W ga gb n (bump ages k) (List.replicate n true) w

set_option maxHeartbeats 2000000 in
set_option maxRecDepth 100000 in
theorem arbiterPatience_walk (W : World) (a0 : Option Addr) (c0 : Nat) (cs : List Int) (s0 : SlI W a0 cs) (_ : ∀ y ∈ cs, IntOk .i64 y) (_ : cs.length ≤ maxLen)
    (pt : Int) (wp : (Lit.int .u8 pt).wf = true) (ch : Int) (wc : (Lit.int .u8 ch).wf = true) :
    Calls Try.prog 4 #[.slice a0 cs.length c0, .int .u8 pt, .int .u8 ch] W fun e W' => e = .returned (.bool true) ∧ Below W.heap.size W W' := by
  have HAW := Lib.hid (awake_ok W)
  have hpt : 0 ≤ pt ∧ pt ≤ 255 := by simpa [Lit.wf, IntKind.min, IntKind.max, IntKind.signed, IntKind.bits] using wp
  have hch : 0 ≤ ch ∧ ch ≤ 255 := by simpa [Lit.wf, IntKind.min, IntKind.max, IntKind.signed, IntKind.bits] using wc
  obtain ⟨hp0, hp1⟩ := hpt
  obtain ⟨hc0, hc1⟩ := hch
  clear wp wc
  have S0 := Lib.hid s0; clear s0
  generalize hn : cs.length = n at *
  have HN := Lib.hid hn; clear hn
  by_cases h0 : n = 0
  · subst h0
    go_enter Try.func4, Try.ntmps4
    go_wp2_with fail
    refine HAW.out.mono ?_
    rintro e w1 ⟨rfl, hb⟩
    have B1 := Lib.hid hb; clear hb
    go_wp2_with fail
    go_ret
    exact ⟨rfl, B1.out⟩
  have hb0 : ((n : Int) == 0) = false := by rw [beq_eq_false_iff_ne]; omega
  by_cases h12 : (12 : Int) < n
  · go_enter Try.func4, Try.ntmps4
    go_wp2_with fail
    refine HAW.out.mono ?_
    rintro e w1 ⟨rfl, hb⟩
    have B1 := Lib.hid hb; clear hb
    go_wp2_with fail
    go_ret
    exact ⟨rfl, B1.out⟩
  have hn1 : 1 ≤ n := by omega
  have hn12 : n ≤ 12 := by omega
  clear h0
  have hB12 : decide ((12 : Int) < (n : Int)) = false := by simpa using h12
  obtain ⟨p, hp⟩ : ∃ p : Nat, pt % 21 = p := ⟨(pt % 21).toNat, by omega⟩
  obtain ⟨t, ht⟩ : ∃ t : Nat, ch % 201 = t := ⟨(ch % 201).toNat, by omega⟩
  have hpb : p ≤ 20 := by omega
  have htb : t ≤ 200 := by omega
  have hmk := fun w => make_ints w n (by omega)
  have hmb := fun w => make_bools w n (by omega)
  generalize hL : (List.replicate n (0 : Int)).map (Value.int .i64) = L at hmk
  have HL := Lib.hid hL; clear hL
  generalize hM : (List.replicate n false).map Value.bool = M at hmb
  have HM0 := Lib.hid hM; clear hM
  go_enter Try.func4, Try.ntmps4
  go_wp2_with fail
  refine HAW.out.mono ?_
  rintro e w1 ⟨rfl, hb⟩
  have B1 := Lib.hid hb; clear hb
  go_wp2_with fail
  have R0 : Hid (PatMem W w1.heap.size (w1.heap.size + 1) n (List.replicate n 0) (fillT n 0) ((w1.alloc (.cells L.toArray 3)).alloc (.cells M.toArray 4))) := by
    have hs := B1.out.size
    refine ⟨?_, ?_, by omega, by omega, by omega, by simp, by simp [fillT], (B1.out.alloc hs _).alloc (by simp; omega) _⟩
    · rw [HL.out]; exact (Blk.new w1 3 L).alloc _
    · have := Blk.new (w1.alloc (.cells L.toArray 3)) 4 M
      rw [← HM0.out] at this ⊢
      simpa [fillT] using this
  generalize w1.heap.size = ga at *
  generalize ga + 1 = gb at *
  clear hmk hmb
  rw [hp]
  clear hp
  go_loopw [34] (fun i wr => PatRel1 W ga gb n i wr) (fun i _ => n - (intOf i).toNat)
  case atStart => exact ⟨0, Nat.zero_le _, rfl, R0.out⟩
  case round =>
    obtain ⟨k, hk, rfl, hm⟩ := hrel
    have HM := Lib.hid hm; clear hm
    by_cases hlt : k < n
    · have cb := HM.out.hb.cell (i := k) (v := .bool ((fillT n k)[k]'(by rw [HM.out.lb]; exact hlt))) (by simp)
      have fb := HM.out.hb.free k
      go_wp2_with fail
      go_roundw
      case rel => exact ⟨k + 1, by omega, by go_num, by rw [← fillT_succ hlt]; exact HM.out.setB k true⟩
      case measure => simp [intOf]; omega
    · obtain rfl : k = n := by omega
      have hfull : fillT k k = List.replicate k true := by simp [fillT]
      rw [hfull] at HM
      clear hfull
      obtain ⟨w2, rfl⟩ : ∃ w2 : World, w2 = wr := ⟨_, rfl⟩
      go_wp2_with fail
      rw [ht]
      clear ht
      go_loopw [44] (fun i wr => PatRel2 W ga gb k t p i wr) (fun i _ => t - (intOf i).toNat)
      case atStart => exact ⟨0, Nat.zero_le _, rfl, _, pat_zero k p (by omega), HM.out⟩
      case round =>
        obtain ⟨q, hq, rfl, ages, hinv, hm⟩ := hrel
        have HM2 := Lib.hid hm; clear hm
        have HINV := Lib.hid hinv; clear hinv
        by_cases hqt : q < t
        · obtain ⟨c, hc, hrk, hst⟩ := pat_step (cs := cs) (show (0 : Int) ≤ p by omega) hn1 HINV.out
          have RA := Lib.hid (ranked_any wr a0 (some ⟨gb, 0, none⟩) (some ⟨ga, 0, none⟩) k c0 k k p cs (List.replicate k true) ages (by omega) HN.out (by simp) HM2.out.la (S0.out.below HM2.out.bel) HM2.out.hb.sl HM2.out.ha.sl)
          rw [hrk] at RA
          have HST := Lib.hid hst
          have hcn : (c : Int) < (k : Int) := by omega
          have hc0 : (0 : Int) ≤ (c : Int) := by omega
          clear hrk hst
          have hlt := Lib.hid (pat_lt HINV.out)
          go_wp2_with fail
          refine RA.out.mono ?_
          rintro e w3 ⟨rfl, hb⟩
          have M3 := Lib.hid (HM2.out.upd hb); clear hb
          go_wp2_with fail
          go_loopw [67] (fun i wr => PatRel3 W ga gb k ages i wr) (fun i _ => k - (intOf i).toNat)
          case atStart => exact ⟨0, Nat.zero_le _, rfl, M3.out⟩
          case round =>
            obtain ⟨j, hj, rfl, hm⟩ := hrel
            have HM4 := Lib.hid hm; clear hm
            by_cases hjk : j < k
            · have hja : j < ages.length := by have := HM2.out.la; omega
              have hget : (bump ages j)[j]? = some ages[j] := by rw [bump_get, if_neg (by omega)]; simp
              have ca := HM4.out.ha.cell (i := j) (v := .int .i64 ages[j]) (by simp [hget])
              have fa := HM4.out.ha.free j
              have hbd := hlt.out ages[j] (List.getElem_mem hja)
              have hst : Hid (bump ages (j + 1) = (bump ages j).set j (ages[j] + 1)) := by
                show _ = _
                rw [bump, List.getD_eq_getElem?_getD, List.getElem?_eq_getElem hja]; rfl
              clear hget
              generalize ages[j] = a at *
              obtain ⟨b1, b2⟩ := hbd
              go_wp2_with fail
              go_roundw
              case rel => exact ⟨j + 1, by omega, by go_num, by rw [hst.out]; exact HM4.out.setA j _⟩
              case measure => simp [intOf]; omega
            · obtain rfl : j = k := by omega
              have hbl : bump ages j = ages.map (· + 1) := by have := HM2.out.la; rw [← this]; exact bump_all ages
              rw [hbl] at HM4
              have hl5 := HM4.out.la
              have cz := HM4.out.ha.cell (i := c) (v := .int .i64 ((ages.map (· + 1))[c]'(by omega))) (by simp)
              have fz := HM4.out.ha.free c
              clear hbl
              go_wp2_with fail
              go_roundw
              case rel => exact ⟨q + 1, by omega, by go_num, _, HST.out, HM4.out.setA c 0⟩
              case measure => simp [intOf]; omega
        · go_wp2_with fail
          go_ret
          exact ⟨rfl, HM2.out.bel⟩
end Go.Proofs.Ythjlknomaoolaaa
