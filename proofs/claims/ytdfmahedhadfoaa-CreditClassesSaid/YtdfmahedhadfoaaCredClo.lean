/-
  Contracts of the closures of credit.Giver.
-/
import Derived.Test.YtdfmahedhadfoaaCredLib
namespace Go.Proofs.Ytdfmahedhadfoaa
open Go.RowKit
set_option linter.unusedVariables false

set_option maxHeartbeats 1000000 in
theorem limit_any (x : I3) (w : World) (h : GOk x) : Calls Try.prog 33 #[.agg #[.int .i64 x.a, .int .i64 x.b, .int .i64 x.c]] w
    fun e w' => e = .returned (.int .i64 (x.a + x.c)) ∧ Below w.heap.size w w' := by
  obtain ⟨a, b, c⟩ := x
  obtain ⟨h1, h2, h3, h4, h5, h6⟩ := h
  dsimp only at *
  go_enter Try.func33, Try.ntmps33
  go_wp2
  go_ret
  exact ⟨rfl, (Below.refl _ _).alloc (Nat.le_refl _) _⟩

/-- What a closure that changes class c of the block cb leaves. -/
def CloPost (cb : Nat) (S : Nat → Prop) (w : World) (l' : List I3) (e0 : Int) (e : Ending) (w' : World) : Prop :=
  e = .returned (.int .i64 e0) ∧ Blk w' cb 68 (cs3 l') ∧ Upd S w w'

/-- The block cb is as it was, and only new blocks have come. -/
structure Same (w0 : World) (cb : Nat) (l : List I3) (w : World) : Prop where
  hb : Blk w cb 68 (cs3 l)
  bel : Below w0.heap.size w0 w
theorem Same.below {w0 w w' : World} {cb : Nat} {l : List I3} (h : Same w0 cb l w) (b : Below w.heap.size w w') : Same w0 cb l w' :=
  ⟨h.hb.upd (S := fun _ => False) (Upd.of_below b) id, h.bel.trans (b.mono h.bel.size)⟩
theorem Same.drew {w0 w : World} {cb : Nat} {l : List I3} (h : Same w0 cb l w) : Same w0 cb l w.drew := h.below ((Qt.refl w).drewN 1).bel
/-- What a region that reads class c holds. -/
def SameS (w0 : World) (cb c : Nat) (l : List I3) (a b d : Int) (w' : World) : Prop :=
  w'.cell? ⟨cb, c * 3, none⟩ = some (.int .i64 a) ∧ w'.cell? ⟨cb, c * 3 + 1, none⟩ = some (.int .i64 b) ∧ w'.cell? ⟨cb, c * 3 + 2, none⟩ = some (.int .i64 d) ∧ Same w0 cb l w'
theorem Same.s {w0 w : World} {cb c : Nat} {l : List I3} {a b d : Int} (h : Same w0 cb l w) (hx : Hid (l[c]? = some ⟨a, b, d⟩)) : SameS w0 cb c l a b d w :=
  have q := blk3 h.hb hx.out
  ⟨q.1, q.2.1, q.2.2, h⟩

set_option maxHeartbeats 2000000 in
theorem rec1_any (w : World) (cb c : Nat) (l : List I3) (x : I3) (hb : Blk w cb 68 (cs3 l)) (hx : l[c]? = some x) (h : GOk x) :
    Calls Try.prog 34 #[.pointer (some ⟨cb, c * 3, none⟩)] w (CloPost cb (fun k => k = cb) w (l.set c (recX x)) (recE x)) := by
  obtain ⟨q0, q1, q2⟩ := blk3 hb hx
  have SM : Same w cb l w := ⟨hb, Below.refl _ _⟩
  have HB := Lib.hid hb; have HX := Lib.hid hx
  have LIM := Lib.hid (limit_any x · h)
  obtain ⟨a, b, d⟩ := x
  obtain ⟨h1, h2, h3, h4, h5, h6⟩ := h
  dsimp only at *
  by_cases hfull : a + d ≤ b
  · have e1 : Hid (recX ⟨a, b, d⟩ = ⟨a, b, d⟩ ∧ recE ⟨a, b, d⟩ = 5) := by constructor <;> simp [recX, recE, hfull]
    rw [e1.out.1, e1.out.2, set_same HX.out]
    clear hb hx
    go_enter Try.func34, Try.ntmps34
    go_wp2_with fail
    go_region_held3 (fun w' => w'.cell? ⟨cb, c * 3, none⟩ = some (.int .i64 a) ∧ w'.cell? ⟨cb, c * 3 + 1, none⟩ = some (.int .i64 b) ∧ w'.cell? ⟨cb, c * 3 + 2, none⟩ = some (.int .i64 d) ∧ Same w cb l w')
      ((go_split_ands; first | exact (Same.drew (by assumption)).s HX | exact (Same.below (by assumption) (by assumption)).s HX | exact Same.s (by assumption) HX | go_keep))
      (first | (go_at_call 33; refine (LIM.out _).mono ?_; rintro e w' ⟨rfl, hbel⟩))
    go_wp2_with fail
    go_ret
    go_split_ands
    exact ⟨rfl, Same.hb (by assumption), Upd.of_below (Same.bel (by assumption))⟩
  · have e1 : Hid (recX ⟨a, b, d⟩ = ⟨a, b + 1, d⟩ ∧ recE ⟨a, b, d⟩ = 0) := by constructor <;> simp [recX, recE, hfull]
    rw [e1.out.1, e1.out.2]
    clear hb hx
    go_enter Try.func34, Try.ntmps34
    go_wp2_with fail
    go_region_held3 (fun w' => w'.cell? ⟨cb, c * 3, none⟩ = some (.int .i64 a) ∧ w'.cell? ⟨cb, c * 3 + 1, none⟩ = some (.int .i64 b) ∧ w'.cell? ⟨cb, c * 3 + 2, none⟩ = some (.int .i64 d) ∧ Same w cb l w')
      ((go_split_ands; first | exact (Same.drew (by assumption)).s HX | exact (Same.below (by assumption) (by assumption)).s HX | exact Same.s (by assumption) HX | go_keep))
      (first | (go_at_call 33; refine (LIM.out _).mono ?_; rintro e w' ⟨rfl, hbel⟩))
    rename_i w1 hS
    obtain ⟨r0, r1, r2, SM1⟩ := hS
    have f1 := SM1.hb.free (c * 3 + 1)
    have S1 := Lib.hid SM1; clear SM1 SM q0 q1 q2
    go_wp2_with fail
    go_ret
    exact ⟨rfl, blk3_setB S1.out.hb HX.out _, (Upd.of_below S1.out.bel).setCell _ _ (fun _ => rfl)⟩

set_option maxHeartbeats 2000000 in
theorem fre1_any (w : World) (cb c : Nat) (l : List I3) (x : I3) (hb : Blk w cb 68 (cs3 l)) (hx : l[c]? = some x) (h : GOk x) :
    Calls Try.prog 35 #[.pointer (some ⟨cb, c * 3, none⟩)] w (CloPost cb (fun k => k = cb) w (l.set c (freX x)) (freE x)) := by
  obtain ⟨q0, q1, q2⟩ := blk3 hb hx
  have HB := Lib.hid hb; have HX := Lib.hid hx
  have f2 := hb.free (c * 3 + 2)
  obtain ⟨a, b, d⟩ := x
  obtain ⟨h1, h2, h3, h4, h5, h6⟩ := h
  dsimp only at *
  by_cases hfull : b ≤ d
  · have e1 : Hid (freX ⟨a, b, d⟩ = ⟨a, b, d⟩ ∧ freE ⟨a, b, d⟩ = 7) := by constructor <;> simp [freX, freE, hfull]
    rw [e1.out.1, e1.out.2, set_same HX.out]
    clear hb hx
    go_enter Try.func35, Try.ntmps35
    go_wp2_with fail
    go_quiet (fail)
    go_wp2_with fail
    go_ret
    exact ⟨rfl, HB.out.qt ((Qt.refl _).drewN _), (Upd.refl _ _).drewN _⟩
  · have e1 : Hid (freX ⟨a, b, d⟩ = ⟨a, b, d + 1⟩ ∧ freE ⟨a, b, d⟩ = 0) := by constructor <;> simp [freX, freE, hfull]
    rw [e1.out.1, e1.out.2]
    clear hb hx
    go_enter Try.func35, Try.ntmps35
    go_wp2_with fail
    go_quiet (fail)
    go_wp2_with fail
    go_ret
    exact ⟨rfl, blk3_setC (HB.out.qt ((Qt.refl _).drewN _)) HX.out _, ((Upd.refl _ _).drewN _).setCell _ _ (fun _ => rfl)⟩

def LimPost (lb : Nat) (w : World) (v : Int) (e : Ending) (w' : World) : Prop :=
  e = .returned (.int .i64 0) ∧ Blk w' lb 3 [.int .i64 v] ∧ Upd (fun k => k = lb) w w'

set_option maxHeartbeats 2000000 in
theorem lim1_any (w : World) (cb c lb : Nat) (v : Int) (l : List I3) (x : I3) (hb : Blk w cb 68 (cs3 l)) (hx : l[c]? = some x) (h : GOk x) (hl : Blk w lb 3 [.int .i64 v]) :
    Calls Try.prog 36 #[.pointer (some ⟨cb, c * 3, none⟩), .pointer (some ⟨lb, 0, none⟩)] w (LimPost lb w (x.a + x.c)) := by
  obtain ⟨q0, q1, q2⟩ := blk3 hb hx
  have LIM := Lib.hid (limit_any x · h)
  have HL := Lib.hid hl
  obtain ⟨a, b, d⟩ := x
  dsimp only at *
  clear hb hx h hl
  go_enter Try.func36, Try.ntmps36
  go_wp2_with fail
  refine (LIM.out _).mono ?_
  rintro e w1 ⟨rfl, hbel⟩
  have L1 := HL.out.upd (S := fun _ => False) (Upd.of_below hbel) id
  have r0 := L1.cell (i := 0) rfl
  have f0 := L1.free 0
  have HL1 := Lib.hid L1; have HB1 := Lib.hid hbel
  clear L1 hbel
  go_wp2_with fail
  go_ret
  exact ⟨rfl, by simpa using HL1.out.set 0 _, (Upd.of_below HB1.out).setCell _ _ (fun _ => rfl)⟩

set_option maxHeartbeats 2000000 in
theorem held1_any (w : World) (cb c lb : Nat) (v : Int) (l : List I3) (x : I3) (hb : Blk w cb 68 (cs3 l)) (hx : l[c]? = some x) (h : GOk x) (hl : Blk w lb 3 [.int .i64 v]) :
    Calls Try.prog 37 #[.pointer (some ⟨cb, c * 3, none⟩), .pointer (some ⟨lb, 0, none⟩)] w (LimPost lb w (x.b - x.c)) := by
  obtain ⟨q0, q1, q2⟩ := blk3 hb hx
  have HL := Lib.hid hl
  have r0 := hl.cell (i := 0) rfl
  have f0 := hl.free 0
  obtain ⟨a, b, d⟩ := x
  obtain ⟨h1, h2, h3, h4, h5, h6⟩ := h
  dsimp only at *
  clear hb hx hl
  go_enter Try.func37, Try.ntmps37
  go_wp2_with fail
  go_region
  go_wp2_with fail
  go_ret
  exact ⟨rfl, Blk.drew (by simpa using (HL.out.set 0 _)), (Upd.setCell (S := fun k => k = lb) (Upd.refl _ _) _ _ (fun _ => rfl)).drew⟩

def AudPost (cb lb : Nat) (w : World) (l' : List I3) (n e0 : Int) (e : Ending) (w' : World) : Prop :=
  e = .returned (.int .i64 e0) ∧ Blk w' cb 68 (cs3 l') ∧ Blk w' lb 3 [.int .i64 n] ∧ Upd (fun k => k = cb ∨ k = lb) w w'

set_option maxHeartbeats 4000000 in
theorem aud1_any (w : World) (cb c sb lb : Nat) (s : Int) (l : List I3) (x : I3) (hb : Blk w cb 68 (cs3 l)) (hx : l[c]? = some x) (h : GOk x) (hs : Blk w sb 3 [.int .i64 s]) (hl : Blk w lb 3 [.int .i64 0])
    (n1 : cb ≠ sb) (n2 : cb ≠ lb) (n3 : sb ≠ lb) :
    Calls Try.prog 32 #[.pointer (some ⟨cb, c * 3, none⟩), .pointer (some ⟨sb, 0, none⟩), .pointer (some ⟨lb, 0, none⟩)] w (AudPost cb lb w (l.set c (audX x s)) (audN x s) (audE x s)) := by
  obtain ⟨q0, q1, q2⟩ := blk3 hb hx
  have SM : Same w cb l w := ⟨hb, Below.refl _ _⟩
  have HB := Lib.hid hb; have HX := Lib.hid hx; have HS := Lib.hid hs; have HL := Lib.hid hl
  have LIM := Lib.hid (limit_any x · h)
  have p0 := hs.cell (i := 0) rfl
  obtain ⟨a, b, d⟩ := x
  obtain ⟨h1, h2, h3, h4, h5, h6⟩ := h
  dsimp only at *
  by_cases hlo : s < b
  · have e1 : Hid (audX ⟨a, b, d⟩ s = ⟨a, b, d⟩ ∧ audE ⟨a, b, d⟩ s = 2 ∧ audN ⟨a, b, d⟩ s = 0) := by refine ⟨?_, ?_, ?_⟩ <;> simp [audX, audE, audN, hlo]
    rw [e1.out.1, e1.out.2.1, e1.out.2.2, set_same HX.out]
    clear hb hx hs hl
    go_enter Try.func32, Try.ntmps32
    go_wp2_with fail
    go_quiet (fail)
    go_wp2_with fail
    go_ret
    exact ⟨rfl, HB.out.qt ((Qt.refl _).drewN _), HL.out.qt ((Qt.refl _).drewN _), (Upd.refl _ _).drewN _⟩
  · have hlo' : decide (s < b) = false := by simpa using hlo
    have SS : ∀ w', Same w cb l w' → (w'.cell? ⟨sb, 0, none⟩ = some (.int .i64 s) ∧ w'.cell? ⟨cb, c * 3, none⟩ = some (.int .i64 a) ∧ w'.cell? ⟨cb, c * 3 + 1, none⟩ = some (.int .i64 b) ∧ w'.cell? ⟨cb, c * 3 + 2, none⟩ = some (.int .i64 d) ∧ Same w cb l w') :=
      fun w' hS => ⟨by rw [hS.bel.cell (p := ⟨sb, 0, none⟩) HS.out.lt]; exact HS.out.cell rfl, (blk3 hS.hb HX.out).1, (blk3 hS.hb HX.out).2.1, (blk3 hS.hb HX.out).2.2, hS⟩
    have HSS := Lib.hid SS
    by_cases hhi : a + d < s
    · have e1 : Hid (audX ⟨a, b, d⟩ s = ⟨a, b, d⟩ ∧ audE ⟨a, b, d⟩ s = 2 ∧ audN ⟨a, b, d⟩ s = 0) := by refine ⟨?_, ?_, ?_⟩ <;> simp [audX, audE, audN, hhi]
      rw [e1.out.1, e1.out.2.1, e1.out.2.2, set_same HX.out]
      clear hb hx hs hl SS
      go_enter Try.func32, Try.ntmps32
      go_wp2_with fail
      go_region_held3 (fun w' => w'.cell? ⟨sb, 0, none⟩ = some (.int .i64 s) ∧ w'.cell? ⟨cb, c * 3, none⟩ = some (.int .i64 a) ∧ w'.cell? ⟨cb, c * 3 + 1, none⟩ = some (.int .i64 b) ∧ w'.cell? ⟨cb, c * 3 + 2, none⟩ = some (.int .i64 d) ∧ Same w cb l w')
        ((go_split_ands; first | exact HSS.out _ (Same.drew (by assumption)) | exact HSS.out _ (Same.below (by assumption) (by assumption)) | exact HSS.out _ (by assumption)))
        (first | (go_at_call 33; refine (LIM.out _).mono ?_; rintro e w' ⟨rfl, hbel⟩))
      rename_i w1 hS
      obtain ⟨_, _, _, _, SM1⟩ := hS
      have S1 := Lib.hid SM1; clear SM1
      go_wp2_with fail
      go_ret
      exact ⟨rfl, S1.out.hb, HL.out.upd (S := fun _ => False) (Upd.of_below S1.out.bel) id, Upd.of_below S1.out.bel⟩
    · have hnot : ¬ (s < b ∨ a + d < s) := by omega
      have e1 : Hid (audX ⟨a, b, d⟩ s = ⟨a, s, d + (s - b)⟩ ∧ audE ⟨a, b, d⟩ s = 0 ∧ audN ⟨a, b, d⟩ s = s - b) := by refine ⟨?_, ?_, ?_⟩ <;> simp only [audX, audE, audN, if_neg hnot]
      rw [e1.out.1, e1.out.2.1, e1.out.2.2]
      clear hb hx hs hl SS hnot
      go_enter Try.func32, Try.ntmps32
      go_wp2_with fail
      go_region_held3 (fun w' => w'.cell? ⟨sb, 0, none⟩ = some (.int .i64 s) ∧ w'.cell? ⟨cb, c * 3, none⟩ = some (.int .i64 a) ∧ w'.cell? ⟨cb, c * 3 + 1, none⟩ = some (.int .i64 b) ∧ w'.cell? ⟨cb, c * 3 + 2, none⟩ = some (.int .i64 d) ∧ Same w cb l w')
        ((go_split_ands; first | exact HSS.out _ (Same.drew (by assumption)) | exact HSS.out _ (Same.below (by assumption) (by assumption)) | exact HSS.out _ (by assumption)))
        (first | (go_at_call 33; refine (LIM.out _).mono ?_; rintro e w' ⟨rfl, hbel⟩))
      clear q0 q1 q2 p0 SM
      rename_i w' hS
      obtain ⟨p0, q0, q1, q2, SM1⟩ := hS
      have L1 := HL.out.upd (S := fun _ => False) (Upd.of_below SM1.bel) id
      have l0 := L1.cell (i := 0) rfl
      have g0 := L1.free 0
      have g1 := SM1.hb.free (c * 3 + 1)
      have g2 := SM1.hb.free (c * 3 + 2)
      have S1 := Lib.hid SM1; have HL1 := Lib.hid L1; clear SM1 L1
      go_wp2_with fail
      go_region
      go_wp2_with fail
      go_region
      go_wp2_with fail
      go_region
      go_wp2_with fail
      go_ret
      have es : b + (s - b) = s := by omega
      rw [es]
      refine ⟨rfl, Blk.drew (Blk.drew (Blk.drew ?_)), Blk.drew (Blk.drew (Blk.drew ?_)), Upd.drew (Upd.drew (Upd.drew ?_))⟩
      · have A := S1.out.hb.setO (a := ⟨lb, 0, none⟩) (.int .i64 (s - b)) n2
        have C := blk3_setC (blk3_setB A HX.out s) (get_set_self HX.out _) (d + (s - b))
        rw [set_set_same] at C
        exact C
      · have A : Blk (w'.setCell ⟨lb, 0, none⟩ (.int .i64 (s - b))) lb 3 [.int .i64 (s - b)] := by simpa using HL1.out.set 0 (.int .i64 (s - b))
        exact (A.setO (a := ⟨cb, c * 3 + 1, none⟩) _ (Ne.symm n2)).setO (a := ⟨cb, c * 3 + 2, none⟩) _ (Ne.symm n2)
      · exact (((Upd.of_below S1.out.bel).setCell _ _ (fun _ => .inr rfl)).setCell _ _ (fun _ => .inl rfl)).setCell _ _ (fun _ => .inl rfl)
end Go.Proofs.Ytdfmahedhadfoaa
