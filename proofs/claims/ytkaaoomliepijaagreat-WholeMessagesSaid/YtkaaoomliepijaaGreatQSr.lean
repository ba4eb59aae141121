/-
  reorder.Store: Read.
-/
import Derived.Test.YtkaaoomliepijaaGreatQSt
import Derived.Test.YtkaaoomliepijaaGreatQVw
import Derived.Laws.OwnMore
import Derived.Laws.MakeOwn
namespace Go.Proofs.YtkaaoomliepijaaGreat
open Go.RowKit
set_option linter.unusedVariables false

theorem own_rebase2 {w : World} {B base : Nat} {e : TypeId} {size : Nat} {v : Value} {n : Nat} {xs : List Value} (h : w.ownsRow B e size v n xs) (hb : base ≤ B) : w.ownsRow base e size v n xs := by
  obtain ⟨h1, h2⟩ := h
  refine ⟨h1, ?_⟩
  rcases h2 with h2 | ⟨g, cap, cur, e1, e2, e3⟩
  · exact .inl h2
  · exact .inr ⟨g, cap, cur, e1, Nat.le_trans hb e2, e3⟩
/-- What is kept when k bytes from off on were read. -/
def rmF (F : Nat → Option Int) (off k : Nat) : Nat → Option Int := fun a => if off ≤ a ∧ a < off + k then none else F a
theorem rmF_zero (F : Nat → Option Int) (off : Nat) : rmF F off 0 = F := by
  funext a
  unfold rmF
  rw [if_neg (by omega)]
theorem rmF_step (F : Nat → Option Int) (off k : Nat) : updO (rmF F off k) (off + k) none = rmF F off (k + 1) := by
  funext a
  unfold updO rmF
  by_cases e : a = off + k
  · rw [if_pos e, if_pos (by omega)]
  · rw [if_neg e]
    by_cases c : off ≤ a ∧ a < off + k
    · rw [if_pos c, if_pos (by omega)]
    · rw [if_neg c, if_neg (by omega)]
theorem rmF_at (F : Nat → Option Int) (off k : Nat) : rmF F off k (off + k) = F (off + k) := by unfold rmF; rw [if_neg (by omega)]
/-- The bytes read. -/
def rdL (F : Nat → Option Int) (off k : Nat) : List Int := (List.range k).map fun i => (F (off + i)).getD 0
theorem rdL_len (F : Nat → Option Int) (off k : Nat) : (rdL F off k).length = k := by unfold rdL; simp
theorem rdL_step (F : Nat → Option Int) (off k : Nat) : rdL F off (k + 1) = rdL F off k ++ [(F (off + k)).getD 0] := by
  unfold rdL
  rw [List.range_succ, List.map_append]
  rfl
structure RdAt (w wr : World) (sb mb off nxt k : Nat) (F : Nat → Option Int) (v : Value) : Prop where
  t : StAt wr sb mb (off + k) nxt (rmF F off k)
  o : wr.ownsRow w.heap.size 5 1 v k ((rdL F off k).map (Value.int .u8))
  u : Upd (stS sb mb) w wr
/-- A byte more is appended, not yet deleted. -/
def RdCut (w : World) (sb mb off nxt k : Nat) (F : Nat → Option Int) (v : Value) (wx : World) : Prop := ∃ (a : Option Addr) (c : Nat), v = .slice a (k + 1) c ∧ StAt wx sb mb (off + k) nxt (rmF F off k) ∧ wx.ownsRow w.heap.size 5 1 v (k + 1) ((rdL F off (k + 1)).map (Value.int .u8)) ∧ Upd (stS sb mb) w wx
def RdRelS (w : World) (sb mb off nxt n : Nat) (F : Nat → Option Int) (v ix : Value) (wr : World) : Prop := ∃ (k : Nat) (a : Option Addr) (c : Nat), k ≤ n ∧ ix = .int .i64 k ∧ v = .slice a k c ∧ Hid (RdAt w wr sb mb off nxt k F v)
theorem make_bytes (w : World) (n : Nat) (h : n ≤ 5000) : (Instr.makeSlice 22 (.int .i64 0) (.int .i64 n)).run Tryz.prog w = .ok (.slice (some ⟨w.heap.size, 0, none⟩) 0 n) (w.alloc (.cells (List.replicate n (Value.int .u8 0)).toArray 5)) := by
  obtain ⟨i, hi, hz, hs, hb⟩ := info_parts Tryz.infoByte
  rw [run_make w 22 5 i _ Tryz.underlying22 hi hz .i64 .i64 0 n (by omega) (by omega) (by rw [hb]; omega) (by omega)]
  have e : madeCells (Value.int .u8 0).cells (((n : Int).toNat) * i.size) = (List.replicate n (Value.int .u8 0)).toArray := by
    rw [hs, Nat.mul_one, Int.toNat_natCast]
    apply Array.toList_inj.1
    rw [show (Value.int .u8 0).cells = #[Value.int .u8 0] from rfl, toList_madeCells_one]
  rw [e, Int.toNat_natCast]
  rfl
theorem own_made (w : World) (n : Nat) (h : n ≤ 5000) : (w.alloc (.cells (List.replicate n (Value.int .u8 0)).toArray 5)).ownsRow w.heap.size 5 1 (.slice (some ⟨w.heap.size, 0, none⟩) 0 n) 0 (([] : List Int).map (Value.int .u8)) :=
  ⟨by simp, .inr ⟨w.heap.size, n, _, rfl, Nat.le_refl _, Rows_new _ _, Nat.zero_le _, by unfold maxLen; omega, by simp, by simp⟩⟩
set_option maxHeartbeats 8000000 in
set_option maxRecDepth 100000 in
theorem read_st (w : World) (sb mb off nxt most : Nat) (F : Nat → Option Int) (h : StAt w sb mb off nxt F) (hle : off ≤ nxt) (hnx : nxt ≤ 2000) (hm : 1 ≤ most) (hm2 : most ≤ 100000) :
    Calls Tryz.prog 58 #[.pointer (some ⟨sb, 0, none⟩), .int .i64 most] w fun e w' =>
      ∃ v, e = .returned v ∧ Rw (Value.int .u8) 5 w' w.heap.size v (rdL F off (min most (nxt - off))) ∧ StAt w' sb mb (off + min most (nxt - off)) nxt (rmF F off (min most (nxt - off))) ∧ Upd (stS sb mb) w w' := by
  obtain ⟨n, hn⟩ : ∃ n, min most (nxt - off) = n := ⟨_, rfl⟩
  rw [hn]
  have HN := Lib.hid hn
  have hn2 : n ≤ 2000 ∧ off + n ≤ 2000 := by omega
  have H := Lib.hid h
  have HLT := Lib.hid (fun k (hk : stS sb mb k) => h.lt hk)
  obtain ⟨i0, hi, hz0, hz1, hz2⟩ := info_parts Tryz.infoByte
  have HI := Lib.hid hi; have HZ0 := Lib.hid hz0; have HZ1 := Lib.hid hz1; have HZ2 := Lib.hid hz2
  have c1 := h.b.cell (i := 1) rfl
  have c2 := h.b.cell (i := 2) rfl
  have bz := h.b.lt
  have k1 : ¬ (most : Int) < 1 := by omega
  clear h hn hi hz0 hz1 hz2
  go_enter Tryz.func58, Tryz.ntmps58
  go_upto_region 3 with (fail)
  go_cut [5] (fun v wx => v = .int .i64 n ∧ Qt w wx)
  case first =>
    go_quiet (fail)
    all_goals (try go_wp2_with fail)
    all_goals go_meet
    all_goals exact ⟨by have := HN.out; congr 1; omega, (Qt.refl _).drewN _⟩
  case rest =>
    obtain ⟨rfl, Q⟩ := hcut
    have mk := fun w => make_bytes w n (by omega)
    have TQ := H.out.below Q.bel
    have T0 : Hid (RdAt w (wc.alloc (.cells (List.replicate n (Value.int .u8 0)).toArray 5)) sb mb off nxt 0 F (.slice (some ⟨wc.heap.size, 0, none⟩) 0 n)) := by
      refine ⟨?_, ?_, Upd.then (Upd.of_below Q.bel) (Upd.of_below (alloc_belQ _ _)) (fun _ _ h => h)⟩
      · rw [rmF_zero]; exact TQ.below (alloc_belQ _ _)
      · exact own_rebase2 (own_made wc n (by omega)) Q.bel.size
    have hzc := Q.bel.size
    clear c1 c2 bz H Q TQ
    go_wp2_with fail
    clear mk
    go_loopw [6, 27] (fun v ix wr => RdRelS w sb mb off nxt n F v ix wr) (fun _ ix _ => n - (intOf ix).toNat)
    case atStart => exact ⟨0, _, _, Nat.zero_le _, rfl, rfl, T0⟩
    case round =>
      clear T0
      obtain ⟨k, a, c, hk, rfl, rfl, T⟩ := hrel
      by_cases hkn : k < n
      · have d1 := T.out.t.b.cell (i := 1) rfl
        have d3 := T.out.t.b.cell (i := 3) rfl
        have dz := T.out.t.b.lt
        have GT := (T.out.t.m.below (Qt.refl wr).drew.bel).get (i := off + k) (by omega)
        rw [rmF_at] at GT
        obtain ⟨y, hy⟩ : ∃ y, (F (off + k)).getD 0 = y := ⟨_, rfl⟩
        rw [hy] at GT
        have HY := Lib.hid hy
        clear hy
        rw [Int.natCast_add] at GT
        have OWN1 := Lib.hid (own_upd T.out.o (w' := wr.drew.alloc (.cells #[.int .u8 y] 5)) (S := fun _ => False) (Upd.of_below (below_then (Qt.refl wr).drew.bel (alloc_belQ _ _) (Nat.le_refl _))) (fun _ _ => id))
        have SL1 : Hid (Sl (Value.int .u8) (wr.drew.alloc (.cells #[.int .u8 y] 5)) (some ⟨wr.heap.size, 0, none⟩) [y]) := Blk.sl (Blk.new wr.drew 5 ([y].map (Value.int .u8)))
        have T1 := Lib.hid (T.out.t.below (w' := wr.drew.alloc (.cells #[.int .u8 y] 5)) (below_then (Qt.refl wr).drew.bel (alloc_belQ _ _) (Nat.le_refl _)))
        have U1 := Lib.hid ((T.out.u.drew).alloc (.cells #[.int .u8 y] 5))
        have hzr := T.out.u.size
        have z1 : (wr.drew.alloc (.cells #[.int .u8 y] 5)).heap.size = wr.heap.size + 1 := by simp
        have ES : Hid ((rdL F off k).map (Value.int .u8) ++ [y].map (Value.int .u8) = (rdL F off (k + 1)).map (Value.int .u8)) := by show _ = _; rw [rdL_step, List.map_append, HY.out]
        go_wp2_with fail
        go_cut [6] (fun v wx => RdCut w sb mb off nxt k F v wx)
        case first =>
          go_region_law (first | (refine step_append_sl (by rfl) _ _ 22 (by rfl) w.heap.size 5 i0 _ 1 Tryz.underlying22 HI.out HZ0.out HZ1.out HZ2.out rfl (.slice a k c) k ((rdL F off k).map (Value.int .u8)) (by rfl) OWN1.out (Value.int .u8) (fun _ => rfl) (some ⟨wr.heap.size, 0, none⟩) 1 [y] (by rfl) SL1.out (by unfold maxLen; simp; omega) (by simp; omega) (by simp; omega) ?_; intro v' w5 g1 g2 g3; obtain ⟨a', c', rfl, _⟩ := own_shape g1))
          all_goals
            have U5 : Upd (fun j => (Value.slice a k c).ownBlock = some j) (wr.drew.alloc (.cells #[.int .u8 y] 5)) w5 := Upd.of_grownV g2
            have T5 := T1.out.upd U5 (fun j hj e => by have := (own_lt OWN1.out e).2; have := HLT.out j hj; omega)
            have V5 := U1.out.then U5 (fun j hj e => by have := (own_lt OWN1.out e).2; omega)
            rw [ES.out] at g1
            have X5 : Hid (RdCut w sb mb off nxt k F (.slice a' (k + 1) c') w5) := ⟨a', c', rfl, T5, g1, V5⟩
            clear g1 g2 g3 U5 T5 V5
            try go_wp2_with fail
            go_meet
            first | exact X5.out | (obtain ⟨p1, p2, p3, p4, p5, p6⟩ := X5.out; exact ⟨p1, p2, p3, p4.below (Qt.refl _).drew.bel, own_upd p5 (S := fun _ => False) (Upd.of_below (Qt.refl _).drew.bel) (fun _ _ => id), p6.drew⟩)
        case rest =>
          obtain ⟨a', c', rfl, T5, O5, U5⟩ := hcut
          obtain ⟨w6, hdr, hm6, hu6⟩ := (T5.m.below (Qt.refl wc).drew.bel).drop (i := off + k) (by omega) 0
          rw [rmF_step] at hm6
          rw [Int.natCast_add] at hdr
          have hz5 := U5.size
          have T6 := T5.map hm6 (Upd.then (Upd.of_below (Qt.refl wc).drew.bel) hu6 (fun _ _ h => h))
          have T7 := T6.num (off' := off + (k + 1)) (nxt' := nxt) 1 (.int .i64 ((off : Int) + k + 1)) rfl
          have U6 : Upd (stS sb mb) w w6 := U5.drew.then hu6 (fun j _ e => .inr e)
          have O6 := own_upd O5 (Upd.then (Upd.of_below (Qt.refl wc).drew.bel) hu6 (fun _ _ h => h)) (fun j hj e => by have := (own_lt O5 hj).2; have := HLT.out mb (.inr rfl); omega)
          have O7 := own_upd O6 ((Upd.refl (fun j => j = sb) w6).setCell ⟨sb, 1, none⟩ (.int .i64 ((off : Int) + k + 1)) (fun _ => rfl)) (fun j hj e => by have := (own_lt O6 hj).2; have := HLT.out sb (.inl rfl); omega)
          have X7 : Hid (RdAt w (w6.setCell ⟨sb, 1, none⟩ (.int .i64 ((off : Int) + k + 1))) sb mb off nxt (k + 1) F (.slice a' (k + 1) c')) := ⟨T7, O7, U6.setCell _ _ (fun _ => .inl rfl)⟩
          have e3 := T5.b.cell (i := 3) rfl
          have e1 := T5.b.cell (i := 1) rfl
          have ez := T5.b.lt
          have f1 := T6.b.cell (i := 1) rfl
          have fz := T6.b.lt
          have ff := T6.b.free 1
          clear T5 O5 U5 hm6 hu6 T6 T7 U6 O6 O7 T GT OWN1 SL1 T1 U1 d1 d3 dz
          go_wp2_with fail
          go_region
          go_wp2_with fail
          go_roundw
          case rel => exact ⟨k + 1, a', c', by omega, by go_num, rfl, X7⟩
          case measure => simp [intOf]; omega
      · obtain rfl : n = k := by omega
        have RW := Lib.hid (Rw.of_own T.out.o)
        go_wp2_with fail
        go_ret
        exact ⟨_, rfl, RW.out, T.out.t, T.out.u⟩
end Go.Proofs.YtkaaoomliepijaaGreat
