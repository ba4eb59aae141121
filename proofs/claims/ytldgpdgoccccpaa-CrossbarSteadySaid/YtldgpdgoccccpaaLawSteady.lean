/-
  The walk of the law CrossbarSteady.
-/
import Derived.Test.YtldgpdgoccccpaaBarPen
import Derived.RegionTactic
import Derived.BigRegion
import Derived.IntWalk
namespace Go.Proofs.Ytldgpdgoccccpaa
open Go.RowKit
set_option linter.unusedVariables false

def SqRel1 (ls : List (RowOf (RowOf Bool))) (k l : Nat) (W : World) (i : Value) (w : World) : Prop := ∃ j : Nat, j ≤ l ∧ i = .int .i64 j ∧ (∀ x < j, ∀ r, ls[x]? = some r → sqB r.xs k = true) ∧ W = w
/-- The crossbar, the pending requests, the variable k. -/
structure Sd (W : World) (ca kb pb : Nat) (bs : Nat → Nat) (k l : Nat) (p : (Nat → Nat) × (Nat → Nat)) (P : Nat → Nat → Bool) (w : World) : Prop where
  sgl : Sgl W ca k p w
  pen : PenAt w pb bs k l P
  kb : Blk w kb 3 [.int .i64 k]
theorem Sd.below {W : World} {ca kb pb : Nat} {bs : Nat → Nat} {k l : Nat} {p : (Nat → Nat) × (Nat → Nat)} {P : Nat → Nat → Bool} {w w' : World} (h : Sd W ca kb pb bs k l p P w) (b : Below w.heap.size w w') : Sd W ca kb pb bs k l p P w' :=
  ⟨h.sgl.below b, h.pen.below b, h.kb.upd (S := fun _ => False) (Upd.of_below b) id⟩
/-- The blocks lie apart. -/
structure SdNe (W : World) (ca kb pb : Nat) (bs : Nat → Nat) (l : Nat) : Prop where
  a : pb ≠ ca ∧ kb ≠ ca ∧ kb ≠ pb ∧ W.heap.size ≤ pb ∧ W.heap.size ≤ kb
  b : ∀ j < l, bs j ≠ ca ∧ bs j ≠ kb ∧ W.heap.size ≤ bs j
theorem Sd.set {W : World} {ca kb pb : Nat} {bs : Nat → Nat} {k : Nat} {p : (Nat → Nat) × (Nat → Nat)} {P Q : Nat → Nat → Bool} {w : World} (h : Sd W ca kb pb bs k k p P w) (ne : SdNe W ca kb pb bs k) {j q : Nat} (hj : j < k) (hq : q < k) (x : Bool) (hQ : Bar.upd P j (Bar.upd (P j) q x) = Q) : Sd W ca kb pb bs k k p Q (w.setCell ⟨bs j, q, none⟩ (.bool x)) := by
  have u : Upd (fun i => i = bs j) w (w.setCell ⟨bs j, q, none⟩ (.bool x)) := (Upd.refl (fun i => i = bs j) w).setCell ⟨bs j, q, none⟩ _ fun _ => rfl
  obtain ⟨n1, n2, n3⟩ := ne.b j hj
  exact ⟨⟨h.sgl.a.upd u fun e => n1 e.symm, h.sgl.rg, Upd.below h.sgl.bel u h.sgl.bel.size fun i hi => by omega⟩, by rw [← hQ]; exact h.pen.set hj hq x, h.kb.upd u fun e => n2 e.symm⟩
theorem Sd.turn {W : World} {ca kb pb : Nat} {bs : Nat → Nat} {k : Nat} {p q : (Nat → Nat) × (Nat → Nat)} {P : Nat → Nat → Bool} {w w' : World} (h : Sd W ca kb pb bs k k p P w) (ne : SdNe W ca kb pb bs k) (hW : W.heap.size ≤ ca) (u : Upd (fun j => j = ca) w w') (hb : BarAt w' ca k q.1 q.2) (hq : Bar.Rg k q) : Sd W ca kb pb bs k k q P w' :=
  ⟨⟨hb, hq, Upd.below h.sgl.bel u h.sgl.bel.size fun i hi => by omega⟩, h.pen.upd u ne.a.1 fun j hj => (ne.b j hj).1, h.kb.upd u ne.a.2.1⟩
def SdNew (W : World) (ca kb pb k : Nat) (i : Value) (w : World) : Prop := ∃ (j : Nat) (bs : Nat → Nat), j ≤ k ∧ i = .int .i64 j ∧ Sd W ca kb pb bs k j (fun _ => 0, fun _ => 0) (fun _ _ => false) w ∧ SdNe W ca kb pb bs j
def SdMain (W : World) (ca kb pb : Nat) (bs : Nat → Nat) (k K3 i o : Nat) (s : Value) (w : World) : Prop :=
  ∃ (t : Nat) (P : Nat → Nat → Bool) (p : (Nat → Nat) × (Nat → Nat)) (x : Nat), t ≤ K3 ∧ s = .int .i64 t ∧ Sd W ca kb pb bs k k p P w ∧ P i o = true ∧ x < k ∧ P x o = true ∧ Bar.dist k (p.1 o) x ≤ Bar.dist k (p.1 o) i ∧ Bar.wt k (Bar.start p.1 p.2) i o x + t < K3
def SdRow (W : World) (ca kb pb : Nat) (bs : Nat → Nat) (k : Nat) (p : (Nat → Nat) × (Nat → Nat)) (P Y : Nat → Nat → Bool) (s : Value) (w : World) : Prop := ∃ j : Nat, j ≤ k ∧ s = .int .i64 j ∧ Sd W ca kb pb bs k k p (orF P Y j 0) w
def SdIn (W : World) (ca kb pb : Nat) (bs : Nat → Nat) (k j : Nat) (p : (Nat → Nat) × (Nat → Nat)) (P Y : Nat → Nat → Bool) (s : Value) (w : World) : Prop := ∃ q : Nat, q ≤ k ∧ s = .int .i64 q ∧ Sd W ca kb pb bs k k p (orF P Y j q) w
def SdCl (W : World) (ca kb pb : Nat) (bs : Nat → Nat) (k mbx : Nat) (p : (Nat → Nat) × (Nat → Nat)) (P : Nat → Nat → Bool) (m : Nat → Int) (s : Value) (w : World) : Prop := ∃ j : Nat, j ≤ k ∧ s = .int .i64 j ∧ Sd W ca kb pb bs k k p (clF P m j) w ∧ Fun w mbx 3 k (iF m)

set_option maxHeartbeats 16000000 in
set_option maxRecDepth 100000 in
theorem crossbarSteady_walk (W : World) (z1 : Int) (wz1 : (Lit.int .u8 z1).wf = true) (z2 : Int) (wz2 : (Lit.int .u8 z2).wf = true) (z3 : Int) (wz3 : (Lit.int .u8 z3).wf = true) (a0 : Option Addr) (c0 : Nat) (x0 : List (RowOf (RowOf Bool))) (s0 : Sl RowOf.val W a0 x0) (g0 : ∀ r ∈ x0, Sl RowOf.val W (RowOf.a r) r.xs ∧ (∀ l ∈ r.xs, Sl Value.bool W (RowOf.a l) l.xs ∧ (∀ y ∈ l.xs, True) ∧ l.xs.length ≤ maxLen) ∧ r.xs.length ≤ maxLen) (m0 : x0.length ≤ maxLen) :
    Calls Try.prog 3 #[.int .u8 z1, .int .u8 z2, .int .u8 z3, .slice a0 x0.length c0] W fun e W' => e = .returned (.bool true) ∧ Below W.heap.size W W' := by
  obtain ⟨rqs, lns⟩ := reqs_of s0 g0
  have RQS := Lib.hid rqs; have LNS := Lib.hid lns; have M0 := Lib.hid m0
  have HAW := Lib.hid (awake_ok W)
  obtain ⟨h10, h1x⟩ := u8_bounds wz1
  obtain ⟨h20, h2x⟩ := u8_bounds wz2
  obtain ⟨h30, h3x⟩ := u8_bounds wz3
  obtain ⟨q1, rfl⟩ := Int.eq_ofNat_of_zero_le h10
  obtain ⟨q2, rfl⟩ := Int.eq_ofNat_of_zero_le h20
  obtain ⟨q3, rfl⟩ := Int.eq_ofNat_of_zero_le h30
  unfold maxLen at m0
  clear s0 g0 rqs lns wz1 wz2 wz3 h10 h20 h30
  obtain ⟨k, hk1, hk5, ek⟩ : ∃ k : Nat, 1 ≤ k ∧ k ≤ 5 ∧ Hid ((q1 : Int) % 5 + 1 = (k : Int)) := ⟨q1 % 5 + 1, by omega, by omega, by show _ = _; omega⟩
  obtain ⟨i, hik, ei⟩ : ∃ i : Nat, i < k ∧ Hid ((q2 : Int) % (k : Int) = (i : Int) ∧ (q2 : Int).tmod (k : Int) = (i : Int)) := ⟨q2 % k, Nat.mod_lt _ (by omega), by simp, by rw [Int.tmod_eq_emod_of_nonneg (by omega)]; simp⟩
  obtain ⟨o, hok, eo⟩ : ∃ o : Nat, o < k ∧ Hid ((q3 : Int) % (k : Int) = (o : Int) ∧ (q3 : Int).tmod (k : Int) = (o : Int)) := ⟨q3 % k, Nat.mod_lt _ (by omega), by simp, by rw [Int.tmod_eq_emod_of_nonneg (by omega)]; simp⟩
  generalize hlx : x0.length = lx at *
  have HLX := Lib.hid hlx
  clear hlx
  go_enter Try.func3, Try.ntmps3
  go_wp2_with fail
  go_fit HAW.out
  rintro e w1 ⟨rfl, hb⟩
  have B1 := Lib.hid hb; clear hb
  go_upto_region 4 with (fail)
  rw [ek.out]
  have b2 : Below w1.heap.size w1 (w1.alloc (.cells #[.int .i64 k] 3)) := (Below.refl _ _).alloc (Nat.le_refl _) _
  have B2 := Lib.hid (B1.out.trans (b2.mono B1.out.size))
  have KB := Lib.hid (Blk.new w1 3 [.int .i64 k])
  have hWk := B1.out.size
  clear b2
  generalize w1.alloc (.cells #[.int .i64 k] 3) = w2 at *
  generalize w1.heap.size = kb at *
  have kc := KB.out.cell (i := 0) rfl
  have hk0 : ¬ k = 0 := by omega
  obtain ⟨ei1, ei2⟩ := ei.out
  obtain ⟨eo1, eo2⟩ := eo.out
  go_quiet (fail)
  clear ei1 ei2 eo1 eo2 kc
  rename_i nq
  have q3 : Qt w2 (w2.drewN nq) := Qt.drewN' _ _
  have B3 := Lib.hid (B2.out.trans (q3.below _))
  have KB3 := Lib.hid (KB.out.qt q3)
  clear q3 B2 KB hk0
  generalize w2.drewN nq = w3 at *
  have G := greats_any w3 a0 c0 x0 (RQS.out.below B3.out) (by rw [HLX.out]; exact M0.out) LNS.out
  rw [HLX.out] at G
  cases hgs : grsB x0 with
  | true =>
    rw [hgs] at G
    have G1 := Lib.hid G; clear G hgs
    go_wp2_with fail
    go_fit G1.out
    rintro e w4 ⟨rfl, rfl⟩
    go_wp2_with fail
    go_ret
    exact ⟨rfl, B3.out⟩
  | false =>
    rw [hgs] at G
    have G1 := Lib.hid G
    have l20 := (grsB_false hgs).1
    clear G hgs
    by_cases hl0 : lx = 0
    · have hb0 : ((lx : Int) == 0) = true := by simp [hl0]
      have HL0 := Lib.hid hl0
      clear hl0
      go_wp2_with fail
      go_fit G1.out
      rintro e w4 ⟨rfl, rfl⟩
      go_wp2_with fail
      go_ret
      exact ⟨rfl, B3.out⟩
    · have hb0 : ((lx : Int) == 0) = false := by rw [beq_eq_false_iff_ne]; omega
      have hlpos : 0 < lx := by omega
      have hl20 : lx ≤ 20 := by have := HLX.out; omega
      clear hl0 l20
      go_wp2_with fail
      go_fit G1.out
      rintro e w4 ⟨rfl, rfl⟩
      clear G1
      go_wp2_with fail
      go_loopw [50] (fun i w => SqRel1 x0 k lx w3 i w) (fun i _ => lx - (intOf i).toNat)
      case atStart => exact ⟨0, Nat.zero_le _, rfl, fun x hx => by omega, rfl⟩
      case round =>
        obtain ⟨j, hj, rfl, hsq, rfl⟩ := hrel
        have SQ := Lib.hid hsq; clear hsq
        have kc := KB3.out.cell (i := 0) rfl
        by_cases hlt : j < lx
        · obtain ⟨x, ex, okx, cx⟩ := (RQS.out.below B3.out).hs.get (k := j) (by rw [HLX.out]; exact hlt)
          have hxm := List.mem_of_getElem? ex.out
          have RX := Lib.hid ((RQS.out.rows x hxm).below B3.out)
          have LX := Lib.hid (LNS.out x hxm)
          have EX := Lib.hid ex.out
          obtain ⟨xa, xc, xs⟩ := x
          unfold RowOf.val at cx
          dsimp only at cx RX LX
          have hxl := LX.out.1
          unfold maxLen at hxl
          by_cases hxk : xs.length = k
          · have hne : ((xs.length : Int) != (k : Int)) = false := by simp [hxk]
            have CT := scont_any w3 xa xc kb k xs RX.out LX.out KB3.out
            cases hln : lnB xs k with
            | true =>
              rw [hln] at CT
              have CT1 := Lib.hid CT
              clear CT hln hxm hxk
              go_wp2_with fail
              go_fit CT1.out
              rintro e w4 ⟨rfl, rfl⟩
              go_wp2_with fail
              go_ret
              exact ⟨rfl, B3.out⟩
            | false =>
              rw [hln] at CT
              have CT1 := Lib.hid CT
              have SQ2 : Hid (∀ x < j + 1, ∀ r, x0[x]? = some r → sqB r.xs k = true) := by
                intro x hx r hr
                by_cases e : x = j
                · subst e
                  rw [EX.out] at hr
                  obtain rfl := Option.some.inj hr
                  simp only [sqB, decide_eq_true_eq]
                  exact ⟨hxk, lnB_false hln⟩
                · exact SQ.out x (by omega) r hr
              clear CT hln hxm hxk
              go_wp2_with fail
              go_fit CT1.out
              rintro e w4 ⟨rfl, rfl⟩
              go_wp2_with fail
              go_roundw
              case rel => exact ⟨j + 1, by omega, by go_num, SQ2.out, rfl⟩
              case measure => simp [intOf]; omega
          · have hne : ((xs.length : Int) != (k : Int)) = true := by simp; omega
            clear hxm hxk
            go_wp2_with fail
            go_ret
            exact ⟨rfl, B3.out⟩
        · obtain rfl : lx = j := by omega
          have NB := Lib.hid (barnew_ok k w3 hk1 (by omega))
          clear hlt hj
          go_wp2_with fail
          go_fit NB.out
          rintro e w4 ⟨rfl, hA, hb, hz⟩
          have RGZ : Hid (Bar.Rg k (fun _ => 0, fun _ => 0)) := ⟨fun j hj => by show 0 < _; omega, fun j hj => by show 0 < _; omega⟩
          have lkb := KB3.out.lt
          have S4 : Hid (Sgl W w3.heap.size k (fun _ => 0, fun _ => 0) w4) := ⟨hA, RGZ.out, B3.out.trans (hb.mono B3.out.size)⟩
          have KB4 := Lib.hid (KB3.out.upd (S := fun _ => False) (Upd.of_below hb) id)
          have hWa := B3.out.size
          have kc4 := KB4.out.cell (i := 0) rfl
          have hmk := fun w => make_rows w k (by omega)
          have hmb := fun w => make_bools w k (by omega)
          have CB : Hid ((List.replicate k false).map Value.bool = (List.range k).map (bF fun _ => false)) := fun_const _ _ _
          generalize hLb : (List.replicate k false).map Value.bool = LB at hmb CB
          have CR : Hid (((List.range k).map fun _ => Value.slice none 0 0) = (List.range k).map (rwF (fun _ => 0) k 0)) := by
            show _ = _
            refine List.map_congr_left fun j _ => ?_
            simp [rwF]
          generalize hLr : ((List.range k).map fun _ => Value.slice none 0 0) = LR at hmk CR
          have b5 : Below w4.heap.size w4 (w4.alloc (.cells LR.toArray 27)) := (Below.refl _ _).alloc (Nat.le_refl _) _
          have hza : w3.heap.size < w4.heap.size := by omega
          have N0 : Hid (SdNew W w3.heap.size kb w4.heap.size k (.int .i64 0) (w4.alloc (.cells LR.toArray 27))) := by
            refine ⟨0, fun _ => 0, Nat.zero_le _, rfl, ⟨S4.out.below b5, ⟨?_, fun j hj => by omega, fun j hj => by omega, fun j hj => by omega⟩, KB4.out.upd (S := fun _ => False) (Upd.of_below b5) id⟩, ⟨by omega, fun j hj => by omega⟩⟩
            have := Blk.new w4 27 LR
            rw [CR.out] at this ⊢
            exact this
          clear hA hb hz NB kc hLb hLr b5 S4 KB4
          generalize hca : w3.heap.size = ca at *
          clear hca
          go_wp2_with fail
          generalize hpb : w4.heap.size = pb at *
          clear hpb hmk kc4
          go_loopw [79] (fun i w => SdNew W ca kb pb k i w) (fun i _ => k - (intOf i).toNat)
          case atStart => exact N0.out
          case round =>
            clear N0
            obtain ⟨j, bs, hj, rfl, hS, hN⟩ := hrel
            have S := Lib.hid hS; have NE := Lib.hid hN
            clear hS hN
            have kc := S.out.kb.cell (i := 0) rfl
            by_cases hjk : j < k
            · have b6 : Below wr.heap.size wr (wr.alloc (.cells LB.toArray 4)) := (Below.refl _ _).alloc (Nat.le_refl _) _
              have S6 := Lib.hid (S.out.below b6)
              have F6 : Hid (Fun (wr.alloc (.cells LB.toArray 4)) wr.heap.size 4 k (bF fun _ => false)) := by
                have := Blk.new wr 4 LB
                rw [CB.out] at this ⊢
                exact this
              have lpb := S.out.pen.hp.lt
              have lca := S.out.sgl.a.lt
              have lkb2 := S.out.kb.lt
              have lbs : ∀ x < j, bs x < wr.heap.size := fun x hx => (S.out.pen.hr x hx).lt
              have LBS := Lib.hid lbs
              have hWw := S.out.sgl.bel.size
              obtain ⟨a1, a2, a3, a4, a5⟩ := NE.out.a
              have pc : (wr.alloc (.cells LB.toArray 4)).cell? ⟨pb, j, none⟩ = some (rwF bs k j j) := S6.out.pen.hp.cell hjk
              have pf := S6.out.pen.hp.free j
              have u7 : Upd (fun i => i = pb) (wr.alloc (.cells LB.toArray 4)) ((wr.alloc (.cells LB.toArray 4)).setCell ⟨pb, j, none⟩ (.slice (some ⟨wr.heap.size, 0, none⟩) k k)) := (Upd.refl (fun i => i = pb) _).setCell ⟨pb, j, none⟩ _ fun _ => rfl
              have S7 : Hid (Sd W ca kb pb (Bar.upd bs j wr.heap.size) k (j + 1) (fun _ => 0, fun _ => 0) (fun _ _ => false) ((wr.alloc (.cells LB.toArray 4)).setCell ⟨pb, j, none⟩ (.slice (some ⟨wr.heap.size, 0, none⟩) k k))) :=
                ⟨⟨S6.out.sgl.a.upd u7 (fun e => a1 e.symm), S6.out.sgl.rg, Upd.below S6.out.sgl.bel u7 S6.out.sgl.bel.size fun i hi => by omega⟩, S6.out.pen.snoc hjk F6.out (by omega) (fun x hx => by have := LBS.out x hx; omega), S6.out.kb.upd u7 a3⟩
              have NE7 : Hid (SdNe W ca kb pb (Bar.upd bs j wr.heap.size) (j + 1)) := by
                refine ⟨NE.out.a, fun x hx => ?_⟩
                by_cases e : x = j
                · subst e; rw [Bar.upd_same]; omega
                · rw [Bar.upd_ne _ _ e]; exact NE.out.b x (by omega)
              have jk : (j : Int) < (k : Int) := by omega
              clear b6 u7 lbs
              go_wp2_with fail
              go_roundw
              case rel =>
                refine ⟨j + 1, _, by omega, by go_num, ?_, NE7.out⟩
                have s7 := S7.out
                rw [World.setCell_alloc_past _ _ _ _ lpb] at s7
                exact s7
              case measure => simp [intOf]; omega
            · obtain rfl : k = j := by omega
              clear hmb hjk hj
              have rc := S.out.pen.row hik
              have ic : wr.cell? ⟨bs i, o, none⟩ = some (.bool false) := (S.out.pen.hr i hik).cell hok
              have if_ := (S.out.pen.hr i hik).free o
              have ikI : (i : Int) < (k : Int) := by omega
              have okI : (o : Int) < (k : Int) := by omega
              obtain ⟨K3, hK3, eK3, bK3⟩ : ∃ K3 : Nat, Hid (K3 = k * k * k) ∧ Hid ((k : Int) * (k : Int) * (k : Int) = (K3 : Int)) ∧ K3 ≤ 125 := by
                refine ⟨k * k * k, rfl, by show _ = _; simp, ?_⟩
                have h1 : k * k ≤ 5 * 5 := Nat.mul_le_mul hk5 hk5
                have h2 : k * k * k ≤ 5 * 5 * 5 := Nat.mul_le_mul h1 hk5
                omega
              have kk25 : (k : Int) * (k : Int) ≤ 25 := by
                have h1 : k * k ≤ 5 * 5 := Nat.mul_le_mul hk5 hk5
                have h2 : ((k * k : Nat) : Int) ≤ 25 := by omega
                simpa using h2
              have kk0 : 0 ≤ (k : Int) * (k : Int) := Int.mul_nonneg (by omega) (by omega)
              have kkk0 : 0 ≤ (k : Int) * (k : Int) * (k : Int) := by rw [eK3.out]; omega
              have kkk125 : (k : Int) * (k : Int) * (k : Int) ≤ 125 := by rw [eK3.out]; omega
              have P0 : Hid (Sd W ca kb pb bs k k (fun _ => 0, fun _ => 0) (Bar.upd (fun _ _ => false) i (Bar.upd (fun _ => false) o true)) (wr.setCell ⟨bs i, o, none⟩ (.bool true))) := S.out.set NE.out hik hok true rfl
              have kc2 := P0.out.kb.cell (i := 0) rfl
              have M0' : Hid (SdMain W ca kb pb bs k K3 i o (.int .i64 0) (wr.setCell ⟨bs i, o, none⟩ (.bool true))) := by
                refine ⟨0, _, _, i, Nat.zero_le _, rfl, P0.out, by simp [Bar.upd], hik, by simp [Bar.upd], Nat.le_refl _, ?_⟩
                rw [Nat.add_zero, hK3.out]
                exact Bar.wt_lt (by omega)
              clear P0 S kc
              go_wp2_with fail
              clear rc ic if_ kc2
              rw [eK3.out]
              generalize wr.setCell ⟨bs i, o, none⟩ (.bool true) = w5 at *
              clear kk25 kk0 kkk0 kkk125
              go_loopw [99] (fun s w => SdMain W ca kb pb bs k K3 i o s w) (fun s _ => K3 - (intOf s).toNat)
              case atStart => exact M0'.out
              case round =>
                clear M0'
                obtain ⟨t, P, p, x, ht, rfl, hS, hP, hx, hPx, hdx, hwt⟩ := hrel
                have S := Lib.hid hS; have HP := Lib.hid hP; have HPX := Lib.hid hPx; have HDX := Lib.hid hdx; have HWT := Lib.hid hwt
                have htK : t < K3 := by omega
                clear hS hP hPx hdx hwt
                obtain ⟨xi, hxi, exi⟩ : ∃ xi : Nat, xi < lx ∧ (t : Int) % (lx : Int) = (xi : Int) := ⟨t % lx, Nat.mod_lt _ hlpos, by simp⟩
                obtain ⟨r, er, okr, cr⟩ := (RQS.out.below S.out.sgl.bel).hs.get (k := xi) (by rw [HLX.out]; exact hxi)
                have hrm := List.mem_of_getElem? er.out
                have hsq := SQ.out xi hxi r er.out
                have RX := Lib.hid (RQS.out.rows r hrm)
                obtain ⟨hrl, hrr⟩ : r.xs.length = k ∧ ∀ y ∈ r.xs, y.xs.length = k := by simpa [sqB] using hsq
                have HRL := Lib.hid hrl; have HRR := Lib.hid hrr
                obtain ⟨xa, xc, xs⟩ := r
                unfold RowOf.val at cr
                dsimp only at cr RX HRL HRR
                rw [HRL.out] at cr
                have xil : (xi : Int) < (lx : Int) := by omega
                clear hrm hsq hrl hrr
                go_wp2_with fail
                clear exi cr
                go_loopw [110] (fun s w => SdRow W ca kb pb bs k p P (reqF xs) s w) (fun s _ => k - (intOf s).toNat)
                case atStart => exact ⟨0, Nat.zero_le _, rfl, by rw [orF_zero]; exact S.out⟩
                case round =>
                  clear S
                  obtain ⟨j, hj, rfl, hS⟩ := hrel
                  have S := Lib.hid hS; clear hS
                  by_cases hjk : j < k
                  · obtain ⟨y, ey, oky, cy⟩ := (RX.out.below S.out.sgl.bel).hs.get (k := j) (by rw [HRL.out]; exact hjk)
                    have hym := List.mem_of_getElem? ey.out
                    have hyl := HRR.out y hym
                    have EY := Lib.hid ey.out
                    have HYL := Lib.hid hyl
                    unfold RowOf.val at cy
                    rw [hyl] at cy
                    have jk : (j : Int) < (k : Int) := by omega
                    clear hym hyl
                    go_wp2_with fail
                    clear cy
                    go_loopw [117] (fun s w => SdIn W ca kb pb bs k j p P (reqF xs) s w) (fun s _ => k - (intOf s).toNat)
                    case atStart => exact ⟨0, Nat.zero_le _, rfl, S.out⟩
                    case round =>
                      clear S
                      obtain ⟨q, hq, rfl, hS⟩ := hrel
                      have S := Lib.hid hS; clear hS
                      by_cases hqk : q < k
                      · obtain ⟨r', er', o1, c1, o2, c2⟩ := (RX.out.below S.out.sgl.bel).get (n := k) HRL.out HRR.out hjk hqk
                        have er2 : r' = y := by have := er'.out; rw [EY.out] at this; exact (Option.some.inj this).symm
                        subst er2
                        have rc := S.out.pen.row hjk
                        have vc : wr.cell? ⟨bs j, q, none⟩ = some (.bool (orF P (reqF xs) j q j q)) := (S.out.pen.hr j hjk).cell hqk
                        have vf := (S.out.pen.hr j hjk).free q
                        have qk : (q : Int) < (k : Int) := by omega
                        have NX : Hid (∀ b : Bool, b = (orF P (reqF xs) j q j q || reqF xs j q) → Sd W ca kb pb bs k k p (orF P (reqF xs) j (q + 1)) (wr.setCell ⟨bs j, q, none⟩ (.bool b))) := fun b hb => S.out.set NE.out hjk hqk b (by rw [hb]; exact orF_step _ _ _ _)
                        generalize reqF xs j q = yv at c2 NX
                        generalize orF P (reqF xs) j q j q = pv at vc NX
                        cases pv with
                        | true =>
                          have S8 := Lib.hid (NX.out true rfl)
                          go_wp2_with fail
                          go_region
                          clear rc vc vf c1 c2
                          go_wp2_with fail
                          go_roundw
                          case rel => exact ⟨q + 1, by omega, by go_num, S8.out.below (Qt.refl _).drew.bel⟩
                          case measure => simp [intOf]; omega
                        | false =>
                          have S8 := Lib.hid (NX.out yv rfl)
                          go_wp2_with fail
                          go_region
                          clear rc vc vf c1 c2
                          go_wp2_with fail
                          go_roundw
                          case rel => exact ⟨q + 1, by omega, by go_num, S8.out.below (Qt.refl _).drew.bel⟩
                          case measure => simp [intOf]; omega
                      · obtain rfl : k = q := by omega
                        have S8 : Hid (Sd W ca kb pb bs k k p (orF P (reqF xs) (j + 1) 0) wr) := ⟨S.out.sgl, S.out.pen.congr fun a ha b hb => orF_row _ _ _ _ a b hb, S.out.kb⟩
                        go_wp2_with fail
                        go_roundw
                        case rel => exact ⟨j + 1, by omega, by go_num, S8.out⟩
                        case measure => simp [intOf]; omega
                  · obtain rfl : k = j := by omega
                    clear hjk hj
                    -- the matching
                    have hPP : Hid (orF P (reqF xs) k 0 i o = true ∧ orF P (reqF xs) k 0 x o = true) := by
                      constructor <;> unfold orF
                      · rw [HP.out]; rfl
                      · rw [HPX.out]; rfl
                    generalize orF P (reqF xs) k 0 = PP at S hPP
                    obtain ⟨a1, a2, a3, a4, a5⟩ := NE.out.a
                    obtain ⟨rq, ln, of⟩ := S.out.pen.req (by omega) a1 (fun j hj => (NE.out.b j hj).1)
                    have MT := match_ok wr ca k 1 p.1 p.2 (some ⟨pb, 0, none⟩) k (penL bs k PP) S.out.sgl.a rq ln.1 ln.2 (penL_sq _ _ _) (by decide) (by decide) hk1 (by omega) S.out.sgl.rg.g S.out.sgl.rg.a of
                    rw [penL_len] at MT
                    have ES : Hid (Bar.rounds (reqF (penL bs k PP)) k (Bar.start p.1 p.2) 1 = Bar.round PP k true (Bar.start p.1 p.2)) :=
                      round_congr2 (s := Bar.start p.1 p.2) (fun a ha b hb => penL_req ha hb) S.out.sgl.rg.g S.out.sgl.rg.a
                    rw [ES.out] at MT
                    have O := Lib.hid (Bar.round_ok (Bar.start_ok (req := PP) S.out.sgl.rg.g S.out.sgl.rg.a) true)
                    have ST : Hid ((Bar.round PP k true (Bar.start p.1 p.2)).m i ≠ (o : Int) → ∃ y, y < k ∧ clF PP (Bar.round PP k true (Bar.start p.1 p.2)).m k y o = true ∧ Bar.dist k ((Bar.round PP k true (Bar.start p.1 p.2)).g o) y ≤ Bar.dist k ((Bar.round PP k true (Bar.start p.1 p.2)).g o) i ∧ Bar.wt k (Bar.round PP k true (Bar.start p.1 p.2)) i o y < Bar.wt k (Bar.start p.1 p.2) i o x) := fun hm =>
                      Bar.steady_round (Q := clF PP (Bar.round PP k true (Bar.start p.1 p.2)).m k) S.out.sgl.rg.g S.out.sgl.rg.a hik hok hx hPP.out.1 hPP.out.2 HDX.out hm (fun j hj h1 h2 => by
                        unfold clF
                        have : ((Bar.round PP k true (Bar.start p.1 p.2)).m j == (o : Int)) = false := by rw [beq_eq_false_iff_ne]; exact h2
                        simp [h1, this])
                    have CLI : Hid ((Bar.round PP k true (Bar.start p.1 p.2)).m i ≠ (o : Int) → clF PP (Bar.round PP k true (Bar.start p.1 p.2)).m k i o = true) := fun h2 => by
                      unfold clF
                      have : ((Bar.round PP k true (Bar.start p.1 p.2)).m i == (o : Int)) = false := by rw [beq_eq_false_iff_ne]; exact h2
                      simp [hPP.out.1, this]
                    have WTS : Hid (∀ y, Bar.wt k (Bar.start (Bar.round PP k true (Bar.start p.1 p.2)).g (Bar.round PP k true (Bar.start p.1 p.2)).a) i o y = Bar.wt k (Bar.round PP k true (Bar.start p.1 p.2)) i o y) := fun _ => rfl
                    generalize Bar.round PP k true (Bar.start p.1 p.2) = s at *
                    have MT1 := Lib.hid MT
                    clear MT rq ln of ES
                    go_wp2_with fail
                    go_fit MT1.out
                    rintro e w6 ⟨rfl, hA6, hF6, hU6⟩
                    have S6 : Hid (Sd W ca kb pb bs k k (s.g, s.a) PP w6) := S.out.turn NE.out hWa hU6 hA6 ⟨O.out.g, O.out.a⟩
                    have F6 := Lib.hid hF6
                    have kc6 := S6.out.kb.cell (i := 0) rfl
                    have lbs : Hid (∀ j < k, bs j < wr.heap.size) := fun j hj => (S.out.pen.hr j hj).lt
                    have fc := hF6.cell hik
                    unfold iF at fc
                    clear hA6 hF6 hU6 MT1 S
                    generalize wr.heap.size = mbx at *
                    have ikI2 : (i : Int) < (k : Int) := by omega
                    cases hmo : (s.m i == (o : Int)) with
                    | true =>
                      go_wp2_with fail
                      go_ret
                      exact ⟨rfl, S6.out.sgl.bel⟩
                    | false =>
                      have hmne : s.m i ≠ (o : Int) := by rw [beq_eq_false_iff_ne] at hmo; exact hmo
                      have HMN := Lib.hid hmne
                      clear hmne
                      go_wp2_with fail
                      clear fc kc6 hmo
                      go_loopw [162] (fun q w => SdCl W ca kb pb bs k mbx (s.g, s.a) PP s.m q w) (fun q _ => k - (intOf q).toNat)
                      case atStart => exact ⟨0, Nat.zero_le _, rfl, by rw [clF_zero]; exact S6.out, F6.out⟩
                      case round =>
                        clear S6 F6
                        obtain ⟨j, hj, rfl, hS, hF⟩ := hrel
                        have S := Lib.hid hS; have F := Lib.hid hF
                        clear hS hF
                        have kc := S.out.kb.cell (i := 0) rfl
                        by_cases hjk : j < k
                        · have fc := F.out.cell hjk
                          unfold iF at fc
                          have jk : (j : Int) < (k : Int) := by omega
                          by_cases hneg : s.m j < 0
                          · have S7 : Hid (Sd W ca kb pb bs k k (s.g, s.a) (clF PP s.m (j + 1)) wr) := by
                              show Sd _ _ _ _ _ _ _ _ _ _
                              rw [clF_neg _ _ _ hneg]; exact S.out
                            have hneg2 : ¬ 0 ≤ s.m j := by omega
                            generalize s.m j = smj at *
                            go_wp2_with fail
                            go_roundw
                            case rel => exact ⟨j + 1, by omega, by go_num, S7.out, F.out⟩
                            case measure => simp [intOf]; omega
                          · obtain ⟨c, hc⟩ := Int.eq_ofNat_of_zero_le (show 0 ≤ s.m j by omega)
                            have hck : c < k := by
                              rcases O.out.m j hjk with h1 | ⟨y, h1, h2, _⟩ <;> omega
                            rw [hc] at fc
                            have rc := S.out.pen.row hjk
                            have vc : wr.cell? ⟨bs j, c, none⟩ = some (.bool (clF PP s.m j j c)) := (S.out.pen.hr j hjk).cell hck
                            have vf := (S.out.pen.hr j hjk).free c
                            have S7 : Hid (Sd W ca kb pb bs k k (s.g, s.a) (clF PP s.m (j + 1)) (wr.setCell ⟨bs j, c, none⟩ (.bool false))) := S.out.set NE.out hjk hck false (clF_step _ _ _ _ hc)
                            have F7 : Hid (Fun (wr.setCell ⟨bs j, c, none⟩ (.bool false)) mbx 3 k (iF s.m)) := F.out.setO _ (by have := lbs.out j hjk; show mbx ≠ bs j; omega)
                            have ckI : (c : Int) < (k : Int) := by omega
                            have c0I : (0 : Int) ≤ (c : Int) := by omega
                            clear hneg hc
                            go_wp2_with fail
                            go_roundw
                            case rel => exact ⟨j + 1, by omega, by go_num, S7.out, F7.out⟩
                            case measure => simp [intOf]; omega
                        · obtain rfl : k = j := by omega
                          obtain ⟨y, hy, hQ, hd, hw⟩ := ST.out HMN.out
                          have HQI := Lib.hid (CLI.out HMN.out)
                          have HQ := Lib.hid hQ; have HD := Lib.hid hd
                          have HW2 : Hid (Bar.wt k (Bar.start s.g s.a) i o y + (t + 1) < K3) := by
                            show _ < _
                            rw [WTS.out]
                            have := HWT.out
                            omega
                          clear hQ hd hw
                          go_wp2_with fail
                          go_roundw
                          case rel => exact ⟨t + 1, _, (s.g, s.a), y, by omega, by go_num, S.out, HQI.out, hy, HQ.out, HD.out, HW2.out⟩
                          case measure => simp [intOf]; omega
end Go.Proofs.Ytldgpdgoccccpaa
