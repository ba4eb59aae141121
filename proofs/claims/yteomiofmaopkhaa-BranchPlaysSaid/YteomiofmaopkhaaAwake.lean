/-
  A fork of the law's own; the example of the chapter: awake returns true.
-/
import Derived.Test.YteomiofmaopkhaaBrStep
import Derived.Test.YteomiofmaopkhaaBrWait
import Derived.Test.YteomiofmaopkhaaSlices
namespace Go.Proofs.Yteomiofmaopkhaa
open Go.RowKit
set_option linter.unusedVariables false

/-- A fork from block W.heap.size on, in a world that has turned nothing below. -/
structure F1 (W : World) (b : Nat) (o room : Int) (v : Value) (fs : List Fr) (freed : Int) (w : World) : Prop where
  h : FkAt w W.heap.size b o room v fs freed
  bel : Below W.heap.size W w
theorem F1.below {W w w' : World} {b : Nat} {o room : Int} {v : Value} {fs : List Fr} {freed : Int} (h : F1 W b o room v fs freed w) (q : Below w.heap.size w w') : F1 W b o room v fs freed w' := ⟨h.h.below q, h.bel.trans (q.mono h.bel.size)⟩
theorem F1.upd {W w w' : World} {b : Nat} {o room : Int} {v v' : Value} {fs fs' : List Fr} {freed freed' : Int} (h : F1 W b o room v fs freed w) (u : Upd (fkS b v) w w') (h' : FkAt w' W.heap.size b o room v' fs' freed') : F1 W b o room v' fs' freed' w' :=
  ⟨h', Upd.below h.bel u h.bel.size fun i hi => (h.h.f_lt hi).2⟩
def F1Put (W : World) (b : Nat) (o room : Int) (v0 : Value) (fs : List Fr) (freed : Int) (w : World) (e : Ending) (w' : World) : Prop := e = .returned (.int .i64 0) ∧ Upd (fkS b v0) w w' ∧ ∃ v, (v.ownBlock = v0.ownBlock ∨ ∀ g, v.ownBlock = some g → w.heap.size ≤ g) ∧ F1 W b o room v fs freed w'
theorem f1_put {W w : World} {b : Nat} {o room : Int} {v : Value} {fs : List Fr} {freed : Int} (h : F1 W b o room v fs freed w) (nid : Int) (a : Option Addr) (c : Nat) (outs : List Int) (hs : SlI w a outs) (hn : 1 ≤ outs.length) (hn2 : outs.length ≤ 1000) (ho : o ≤ 8)
    (hl : fs.length ≤ 1000) (hroom : room ≤ 64) {m : Nat} (hm : putMask o outs 0 = some m) (hany : fs.any (fun y => y.id == nid) = false) (hlt : fs.length < room) :
    Calls Try.prog 18 #[.pointer (some ⟨b, 0, none⟩), .int .i64 nid, .slice a outs.length c] w (F1Put W b o room v (fs ++ [⟨nid, m⟩]) freed w) := by
  refine (put_any w W.heap.size b o room v fs freed nid h.h a c outs hs hn hn2 ho hl hroom h.bel.size).mono ?_
  rintro e w' (⟨h1, _⟩ | ⟨m', h1, ⟨h2, _⟩ | ⟨_, h2, _⟩ | ⟨_, _, he, v', hF, hU, hv⟩⟩)
  · rw [hm] at h1; simp at h1
  · rw [hany] at h2; simp at h2
  · omega
  · rw [hm] at h1
    obtain rfl := Option.some.inj h1
    exact ⟨he, hU, v', hv, h.upd hU hF⟩
def F1Step (W : World) (b o : Nat) (room : Int) (v0 : Value) (ids : List Int) (fs : List Fr) (freed : Int) (w : World) (e : Ending) (w' : World) : Prop :=
  e = .returned (.slice (some ⟨w.heap.size, 0, none⟩) o o) ∧ Blk w' w.heap.size 3 (ids.map (Value.int .i64)) ∧ W.heap.size ≤ w.heap.size ∧ Upd (fkS b v0) w w' ∧ ∃ v, v.ownBlock = v0.ownBlock ∧ F1 W b o room v fs freed w'
theorem f1_step {W w : World} {b o : Nat} {room : Int} {v : Value} {fs : List Fr} {freed : Int} (h : F1 W b o room v fs freed w) (a : Option Addr) (c : Nat) (rs : List Bool) (hs : SlB w a rs) (hn : rs.length = o) (ho : o ≤ 8) (ho1 : 1 ≤ o) (hl : fs.length ≤ 1000) (h8 : ∀ x ∈ fs, x.bits < 256)
    (hfr : 0 ≤ freed) (hfr2 : freed ≤ 1000000000) (hap : ¬ fkS b v (a.getD default).block) :
    Calls Try.prog 20 #[.pointer (some ⟨b, 0, none⟩), .slice a o c] w
      (F1Step W b o room v (stepAll rs 0 fs).1 (keepF (stepAll rs 0 fs).2) (freed + ((fs.length : Int) - (keepF (stepAll rs 0 fs).2).length)) w) := by
  refine (step_any w W.heap.size b o room v fs freed h.h a c rs hs hn ho ho1 hl h8 hfr hfr2 hap).mono ?_
  rintro e w' ⟨v', he, hr, hF, hU, ho⟩
  exact ⟨he, hr, h.bel.size, hU, v', ho, h.upd hU hF⟩

set_option maxHeartbeats 4000000 in
set_option maxRecDepth 100000 in
theorem awake_ok (w : World) : Calls Try.prog 11 #[] w fun e w' => e = .returned (.bool true) ∧ Below w.heap.size w w' := by
  have N0 := Lib.hid (newF_ok 2 4 w (by decide) (by decide) (by decide) (by decide))
  go_enter Try.func11, Try.ntmps11
  go_wp2_with fail
  refine N0.out.mono ?_
  rintro e w1 ⟨rfl, hF, hB, hz⟩
  have X1 : Hid (F1 w w.heap.size 2 4 (.slice none 0 0) [] 0 w1) := ⟨hF, hB⟩
  clear hF hB hz
  -- the first frame
  have ba : Below w1.heap.size w1 (w1.alloc (.cells #[.int .i64 0, .int .i64 1] 3)) := (Below.refl _ _).alloc (Nat.le_refl _) _
  have sa : SlI (w1.alloc (.cells #[.int .i64 0, .int .i64 1] 3)) (some ⟨w1.heap.size, 0, none⟩) [0, 1] := Blk.sl (f := Value.int .i64) (T := 3) (Blk.new w1 _ [.int .i64 0, .int .i64 1])
  have P1 := Lib.hid (f1_put (X1.out.below ba) 7 _ 2 [0, 1] sa (by decide) (by decide) (by decide) (by decide) (by decide) (m := 3) rfl rfl (by decide))
  clear ba sa
  go_wp2_with fail
  refine P1.out.mono ?_
  rintro e w2 ⟨rfl, _, v2, _, hX⟩
  have X2 : Hid (F1 w w.heap.size 2 4 v2 [⟨7, 3⟩] 0 w2) := hX
  clear hX
  have ba : Below w2.heap.size w2 (w2.alloc (.cells #[.int .i64 1] 3)) := (Below.refl _ _).alloc (Nat.le_refl _) _
  have sa : SlI (w2.alloc (.cells #[.int .i64 1] 3)) (some ⟨w2.heap.size, 0, none⟩) [1] := Blk.sl (f := Value.int .i64) (T := 3) (Blk.new w2 _ [.int .i64 1])
  have P2 := Lib.hid (f1_put (X2.out.below ba) 8 _ 1 [1] sa (by decide) (by decide) (by decide) (by decide) (by decide) (m := 2) rfl rfl (by decide))
  clear ba sa
  go_wp2_with fail
  refine P2.out.mono ?_
  rintro e w3 ⟨rfl, _, v3, _, hX⟩
  have X3 : Hid (F1 w w.heap.size 2 4 v3 [⟨7, 3⟩, ⟨8, 2⟩] 0 w3) := hX
  clear hX
  have ba : Below w3.heap.size w3 (w3.alloc (.cells #[.bool true, .bool false] 4)) := (Below.refl _ _).alloc (Nat.le_refl _) _
  have sa : SlB (w3.alloc (.cells #[.bool true, .bool false] 4)) (some ⟨w3.heap.size, 0, none⟩) [true, false] := Blk.sl (f := Value.bool) (T := 4) (Blk.new w3 _ [.bool true, .bool false])
  have S3 := Lib.hid (f1_step (X3.out.below ba) _ 2 [true, false] sa rfl (by decide) (by decide) (by decide) (by decide) (by decide) (by decide) (fun h => by have := (X3.out.h.f_lt h).1; simp at this))
  clear ba sa
  go_wp2_with fail
  refine S3.out.mono ?_
  rintro e w4 ⟨rfl, hr, hb, hu, v4, ho4, hX⟩
  rw [World.size_alloc] at hr
  have OB4 := Lib.hid ho4; clear ho4 hu
  have X4 : Hid (F1 w w.heap.size 2 4 v4 [⟨7, 2⟩, ⟨8, 2⟩] 0 w4) := hX
  have R4 : Hid (Blk w4 (w3.heap.size + 1) 3 (([7, -1] : List Int).map (Value.int .i64))) := hr
  clear hX hr hb
  have ba : Below w4.heap.size w4 (w4.alloc (.cells #[.bool true, .bool true] 4)) := (Below.refl _ _).alloc (Nat.le_refl _) _
  have sa : SlB (w4.alloc (.cells #[.bool true, .bool true] 4)) (some ⟨w4.heap.size, 0, none⟩) [true, true] := Blk.sl (f := Value.bool) (T := 4) (Blk.new w4 _ [.bool true, .bool true])
  have S4 := Lib.hid (f1_step (X4.out.below ba) _ 2 [true, true] sa rfl (by decide) (by decide) (by decide) (by decide) (by decide) (by decide) (fun h => by have := (X4.out.h.f_lt h).1; simp at this))
  clear ba sa
  go_wp2_with fail
  refine S4.out.mono ?_
  rintro e w5 ⟨rfl, hr, hb, hu, v5, ho5, hX⟩
  rw [World.size_alloc] at hr
  have X5 : Hid (F1 w w.heap.size 2 4 v5 [⟨8, 2⟩] 1 w5) := hX
  have R5 : Hid (Blk w5 (w4.heap.size + 1) 3 (([-1, 7] : List Int).map (Value.int .i64))) := hr
  have z34 : w3.heap.size + 1 < w4.heap.size := R4.out.lt
  have l3 : ∀ j, v4.ownBlock = some j → j < w3.heap.size := fun j hj => (X3.out.h.f_lt (.inr (by rw [← OB4.out]; exact hj))).1
  have l0 : w.heap.size < w3.heap.size := X3.out.h.hb.lt
  have R4' : Hid (Blk w5 (w3.heap.size + 1) 3 (([7, -1] : List Int).map (Value.int .i64))) :=
    (R4.out.alloc _).upd hu (by intro h; rcases h with h | h; omega; have := l3 _ h; omega)
  have OB5 : Hid (v5.ownBlock = v4.ownBlock) := ho5
  have L3 := Lib.hid l3
  have z45 : w4.heap.size + 1 < w5.heap.size := R5.out.lt
  clear hX hr hb hu ho5 l3
  have ba : Below w5.heap.size w5 (w5.alloc (.cells #[.bool true, .bool true] 4)) := (Below.refl _ _).alloc (Nat.le_refl _) _
  have sa : SlB (w5.alloc (.cells #[.bool true, .bool true] 4)) (some ⟨w5.heap.size, 0, none⟩) [true, true] := Blk.sl (f := Value.bool) (T := 4) (Blk.new w5 _ [.bool true, .bool true])
  have S5 := Lib.hid (f1_step (X5.out.below ba) _ 2 [true, true] sa rfl (by decide) (by decide) (by decide) (by decide) (by decide) (by decide) (fun h => by have := (X5.out.h.f_lt h).1; simp at this))
  clear ba sa
  go_wp2_with fail
  refine S5.out.mono ?_
  rintro e w6 ⟨rfl, hr, hb, hu, v6, ho6, hX⟩
  rw [World.size_alloc] at hr
  have X6 : Hid (F1 w w.heap.size 2 4 v6 [] 2 w6) := hX
  have R6 : Hid (SlI w6 (some ⟨w5.heap.size + 1, 0, none⟩) [-1, 8]) := Blk.sl (f := Value.int .i64) (T := 3) (xs := [-1, 8]) hr
  have hn : ∀ j, w3.heap.size < j → ¬ fkS w.heap.size v5 j := by
    intro j hj h
    rcases h with h | h
    · omega
    · rw [OB5.out] at h; have := L3.out j h; omega
  have R4'' : Hid (SlI w6 (some ⟨w3.heap.size + 1, 0, none⟩) [7, -1]) := Blk.sl (f := Value.int .i64) (T := 3) (xs := [7, -1]) ((R4'.out.alloc _).upd hu (hn _ (by omega)))
  have R5' : Hid (SlI w6 (some ⟨w4.heap.size + 1, 0, none⟩) [-1, 7]) := Blk.sl (f := Value.int .i64) (T := 3) (xs := [-1, 7]) ((R5.out.alloc _).upd hu (hn _ (by omega)))
  clear hX hr hb hu ho6 hn
  have q1 : Below w6.heap.size w6 (w6.alloc (.cells #[.int .i64 7, .int .i64 (-1)] 3)) := (Below.refl _ _).alloc (Nat.le_refl _) _
  have E1 := Lib.hid (equalInt_any _ (some ⟨w3.heap.size + 1, 0, none⟩) (some ⟨w6.heap.size, 0, none⟩) 2 2 [7, -1] [7, -1] (R4''.out.below q1) (Blk.sl (f := Value.int .i64) (T := 3) (xs := [7, -1]) (Blk.new w6 _ [.int .i64 7, .int .i64 (-1)])) (by decide))
  have Q1 := Lib.hid q1; clear q1
  go_wp2_with fail
  refine E1.out.mono ?_
  rintro e w7 ⟨rfl, hq⟩
  have B7 := Lib.hid (Q1.out.trans (hq.below _)); clear hq
  have q2 : Below w7.heap.size w7 (w7.alloc (.cells #[.int .i64 (-1), .int .i64 7] 3)) := (Below.refl _ _).alloc (Nat.le_refl _) _
  have E2 := Lib.hid (equalInt_any _ (some ⟨w4.heap.size + 1, 0, none⟩) (some ⟨w7.heap.size, 0, none⟩) 2 2 [-1, 7] [-1, 7] ((R5'.out.below B7.out).below q2) (Blk.sl (f := Value.int .i64) (T := 3) (xs := [-1, 7]) (Blk.new w7 _ [.int .i64 (-1), .int .i64 7])) (by decide))
  have Q2 := Lib.hid q2; clear q2
  go_wp2_with fail
  refine E2.out.mono ?_
  rintro e w8 ⟨rfl, hq⟩
  have B8 := Lib.hid (B7.out.trans ((Q2.out.trans (hq.below _)).mono B7.out.size)); clear hq
  have q3 : Below w8.heap.size w8 (w8.alloc (.cells #[.int .i64 (-1), .int .i64 8] 3)) := (Below.refl _ _).alloc (Nat.le_refl _) _
  have E3 := Lib.hid (equalInt_any _ (some ⟨w5.heap.size + 1, 0, none⟩) (some ⟨w8.heap.size, 0, none⟩) 2 2 [-1, 8] [-1, 8] ((R6.out.below B8.out).below q3) (Blk.sl (f := Value.int .i64) (T := 3) (xs := [-1, 8]) (Blk.new w8 _ [.int .i64 (-1), .int .i64 8])) (by decide))
  have Q3 := Lib.hid q3; clear q3
  go_wp2_with fail
  refine E3.out.mono ?_
  rintro e w9 ⟨rfl, hq⟩
  have X9 := Lib.hid (X6.out.below (B8.out.trans ((Q3.out.trans (hq.below _)).mono B8.out.size))); clear hq
  have FR := Lib.hid (freed_any w9 _ _ _ _ _ _ _ X9.out.h)
  go_wp2_with fail
  refine FR.out.mono ?_
  rintro e w10 ⟨rfl, rfl⟩
  go_wp2_with fail
  go_ret
  exact ⟨rfl, X9.out.bel⟩
end Go.Proofs.Yteomiofmaopkhaa
