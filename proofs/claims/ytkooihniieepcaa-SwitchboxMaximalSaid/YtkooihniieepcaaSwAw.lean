/-
  switchbox: the example of the chapter.
-/
import Derived.Test.YtkooihniieepcaaSwR
import Derived.Test.YtkooihniieepcaaSwS
namespace Go.Proofs.Ytkooihniieepcaa
open Go.RowKit
set_option linter.unusedVariables false

set_option maxHeartbeats 1000000 in
theorem one_any (w : World) (p : Nat) (f : Fr) : Calls Try.prog 28 #[.int .i64 p, frV f] w fun e w' => e = .returned (.int .i64 1) ∧ Below w.heap.size w w' := by
  unfold frV
  go_enter Try.func28, Try.ntmps28
  go_wp2_with fail
  go_ret
  exact ⟨rfl, (Below.refl _ _).alloc (Nat.le_refl _) _⟩
theorem one_route : Route 28 #[] (fun _ _ => ((1 : Nat) : Int)) (fun _ => True) (fun _ => False) :=
  ⟨fun w p f _ _ => one_any w p f, fun _ _ _ _ _ _ => trivial, fun _ _ _ h => h.elim, fun args w => by
    simp [callFunc, go_sem, Try.f28]⟩
def awF : Fr := ⟨7, 0, 0, 1, 0⟩
def awZ : List Int := [1, 1]
theorem awOk : OkBox (2 : Nat) awZ := ⟨by decide, by decide, by decide, by decide, by decide⟩
/-- The box behind Arrive, and behind Raise. -/
def awM : Md := mdQ (mdNew awZ) 0 1 ((mdNew awZ).q 0 1 ++ [awF]) (recX ((mdNew awZ).gv 0 1))
theorem BxPost.bel {W w w' : World} {base P K B : Nat} {L L' : Loc} {M M' : Md} (h : BxPost w base P K L M L' M' w') (h0 : BoxAt w base P K L M) (hw : Below B W w) (hB : B ≤ base) (hs : B ≤ w.heap.size) : Below B W w' :=
  Upd.below hw h.2.1 hs fun k hk => Nat.le_trans hB (h0.lt hk).1
/-- A Step in which nothing is ready; in which one class of one input is. -/
theorem aw_idle {w w' : World} {base P K : Nat} {L : Loc} {M : Md} {t : Nat} {e : Ending} (ht : t < P) (hno : ∀ i < P, ∀ c < K, M.q i c = [] ∨ (M.tk t c).b - (M.tk t c).a ≤ 0) (h : StepPost w base P K L M (fun _ _ => (t : Int)) e w') :
    ∃ L' a1 c1 a2 c2 g a, e = .returned (.tuple #[.slice a1 0 c1, .slice a2 0 c2]) ∧ BxPost w base P K L M L' { M with g := g, a := a } w' ∧ L'.bb = L.bb := by
  obtain ⟨L', l, b, s1, s, h1, h2, h3, rfl, hk⟩ := h
  have e := step_idle ht hno h1 h2 h3
  subst e
  obtain ⟨a1, c1, e1, _⟩ := own_shape hk.omv
  obtain ⟨a2, c2, e2, _⟩ := own_shape hk.ofr
  exact ⟨L', a1, c1, a2, c2, b.g, b.a, by rw [e1, e2]; rfl, hk.bx, hk.bbe⟩
theorem aw_one {w w' : World} {base P K : Nat} {L : Loc} {M : Md} {t i c : Nat} {f : Fr} {r : List Fr} {e : Ending} (ht : t < P) (hi : i < P) (hc : c < K) (hemp : ∀ j < P, j ≠ i → ∀ c < K, M.q j c = []) (hq : M.q i c = f :: r) (hcr : 0 < (M.tk t c).b - (M.tk t c).a)
    (hcls : clsOf K M (fun p c => ouN P (fun _ _ => (t : Int)) p (M.q p c)) i t = some c) (h : StepPost w base P K L M (fun _ _ => (t : Int)) e w') :
    ∃ L' a1 c1 a2 c2 g a, e = .returned (.tuple #[.slice a1 1 c1, .slice a2 1 c2]) ∧ w'.ownsRow w.heap.size 34 3 (.slice a1 1 c1) 1 (flC mvC [⟨i, c, t⟩]) ∧ w'.ownsRow w.heap.size 39 6 (.slice a2 1 c2) 1 (flC frC [f]) ∧
      BxPost w base P K L M L' (sOne K i t c ⟨{ M with g := g, a := a }, [], []⟩).M w' ∧ L'.bb = L.bb := by
  obtain ⟨L', l, b, s1, s, h1, h2, h3, rfl, hk⟩ := h
  have e := step_one ht hi hc hemp hq hcr hcls h1 h2 h3
  subst e
  obtain ⟨a1, c1, e1, _⟩ := own_shape hk.omv
  obtain ⟨a2, c2, e2, _⟩ := own_shape hk.ofr
  have ho1 := hk.omv
  have ho2 := hk.ofr
  rw [e1] at ho1
  rw [e2] at ho2
  have ef : (sOne K i t c ⟨{ M with g := b.g, a := b.a }, [], []⟩).fr = [f] := by
    show [] ++ [(M.q i c).headD default] = [f]
    rw [hq]
    rfl
  rw [ef] at ho2 e2
  exact ⟨L', a1, c1, a2, c2, b.g, b.a, by rw [e1, e2]; rfl, ho1, ho2, hk.bx, hk.bbe⟩
set_option maxHeartbeats 8000000 in
set_option maxRecDepth 100000 in
theorem awake_any (w : World) : Calls Try.prog 9 #[] w fun e w' => e = .returned (.bool true) ∧ Below w.heap.size w w' := by
  obtain ⟨w1, hw1⟩ : ∃ w1, w1 = w.alloc (.cells #[.int .i64 1, .int .i64 1] 3) := ⟨_, rfl⟩
  have B1 : Hid (Below w.heap.size w w1) := Lib.hid (by rw [hw1]; exact (Below.refl _ _).alloc (Nat.le_refl _) _)
  have NY : Hid (Calls Try.prog 15 #[.int .i64 2, .slice (some ⟨w.heap.size, 0, none⟩) 2 2] w1 (NewYes w1 2 awZ)) := Lib.hid (by
    refine new_yes w1 2 (some ⟨w.heap.size, 0, none⟩) 2 awZ (Blk.sl (T := 3) ?_) awOk
    rw [hw1]
    exact Blk.new w 3 [.int .i64 1, .int .i64 1])
  go_enter Try.func9, Try.ntmps9
  go_wp2_with fail
  rw [← hw1]
  clear hw1
  refine NY.out.mono ?_
  rintro e w2 ⟨L, rfl, hbx, hb2⟩
  have X2 := Lib.hid hbx
  have B2 := Lib.hid (B1.out.trans (hb2.mono B1.out.size))
  have AR : Hid (Calls Try.prog 16 #[.pointer (some ⟨L.bb, 0, none⟩), .int .i64 0, .agg #[.int .i64 7, .int .i64 0, .int .i64 0, .int .i64 1, .int .i64 0, .slice none 0 0]] w2 fun e w' => ∃ v, e = .returned (.int .i64 0) ∧ BxPost w2 w1.heap.size 2 2 L (mdNew awZ) (locQ L 0 1 v) awM w') := Lib.hid (arrive_yes 0 1 awF rfl hbx (by decide) (by decide) (by decide) (by decide) hb2.size)
  clear hbx NY
  go_wp2_with fail
  refine AR.out.mono ?_
  rintro e w3 ⟨v, rfl, hp3⟩
  have X3 := Lib.hid hp3.1
  have B3 := Lib.hid (hp3.bel X2.out B2.out B1.out.size B2.out.size)
  have ST1 := Lib.hid (step_ok one_route hp3.1 trivial (Nat.le_trans hb2.size hp3.2.1.size))
  have Z3 := Lib.hid (Nat.le_trans hb2.size hp3.2.1.size)
  clear hp3 AR X2 B2
  go_wp2_with fail
  refine ST1.out.mono ?_
  rintro e w4 hq4
  obtain ⟨L4, a1, c1, a2, c2, g4, a4, rfl, hp4, hbb4⟩ := aw_idle (t := 1) (by decide) (fun i _ c _ => .inr (by show (0 : Int) - 0 ≤ 0; omega)) hq4
  have X4 := Lib.hid hp4.1
  have B4 := Lib.hid (hp4.bel X3.out B3.out B1.out.size B3.out.size)
  have Z4 := Lib.hid (Nat.le_trans Z3.out hp4.2.1.size)
  have RA := raise_yes 1 1 1 hp4.1 (by decide) (by decide)
  rw [hbb4] at RA
  have RS : Hid (Calls Try.prog 17 #[.pointer (some ⟨L.bb, 0, none⟩), .int .i64 1, .int .i64 1, .int .i64 1] w4 fun e w' => e = .returned (.int .i64 0) ∧ BxPost w4 w1.heap.size 2 2 L4 { awM with g := g4, a := a4 } L4 { awM with g := g4, a := a4, tk := upd2 awM.tk 1 1 ⟨0, 1⟩ } w') := Lib.hid RA
  have HB4 := Lib.hid hbb4
  clear hp4 hq4 hbb4 RA ST1 X3 B3 Z3
  go_wp2_with fail
  refine RS.out.mono ?_
  rintro e w5 ⟨rfl, hp5⟩
  have X5 := Lib.hid hp5.1
  have B5 := Lib.hid (hp5.bel X4.out B4.out B1.out.size B4.out.size)
  have hz5 := Nat.le_trans Z4.out hp5.2.1.size
  have ST2 := step_ok one_route hp5.1 trivial hz5
  rw [HB4.out] at ST2
  have S2 := Lib.hid ST2
  clear hp5 RS X4 B4 Z4 hz5 ST2
  go_wp2_with fail
  refine S2.out.mono ?_
  rintro e w6 hq6
  obtain ⟨L6, a3, c3, a4', c4, g6, a6, rfl, ho1, ho2, hp6, hbb6⟩ := aw_one (t := 1) (i := 0) (c := 1) (f := awF) (r := []) (by decide) (by decide) (by decide)
    (fun j hj hne c hc => by
      show upd2 (fun _ _ => []) 0 1 _ j c = []
      rw [upd2_ne _ _ (by omega)]) rfl (by show (0 : Int) < 1 - 0; decide)
    (cls_some (n := 1) (by decide) (fun j hj => by
      obtain rfl : j = 0 := by omega
      rw [rdy_const (by decide)]
      rfl) (by rw [rdy_const (by decide)]; rfl)) hq6
  have B6 := Lib.hid (hp6.bel X5.out B5.out B1.out.size B5.out.size)
  obtain ⟨k1, m0⟩ := ownC_cell mvC_len (by decide) ho1 (j := 0) (p := ⟨0, 1, 1⟩) rfl (k := 0) (by decide) rfl
  obtain ⟨_, m1⟩ := ownC_cell mvC_len (by decide) ho1 (j := 0) (p := ⟨0, 1, 1⟩) rfl (k := 1) (by decide) rfl
  obtain ⟨_, m2⟩ := ownC_cell mvC_len (by decide) ho1 (j := 0) (p := ⟨0, 1, 1⟩) rfl (k := 2) (by decide) rfl
  obtain ⟨k2, f0⟩ := ownC_cell frC_len (by decide) ho2 (j := 0) (p := awF) rfl (k := 0) (by decide) rfl
  clear hp6 hq6 ho1 ho2 X5 B5 S2 hbb6
  simp only [Nat.zero_mul, Nat.zero_add] at m0 m1 m2 f0
  unfold awF at f0
  go_wp2_with fail
  go_ret
  exact ⟨rfl, B6.out⟩
end Go.Proofs.Ytkooihniieepcaa
