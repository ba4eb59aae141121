/-
  The reference for a taker; memory of the law CreditTaker.
-/
import Derived.Test.YtdfmahedhadfoaaAwake
import Derived.Test.YtdfmahedhadfoaaTak
namespace Go.Proofs.Ytdfmahedhadfoaa
open Go.RowKit
set_option linter.unusedVariables false

def RefPost2 (w : World) (x' : I2) (e0 : Int) (e : Ending) (w' : World) : Prop :=
  e = .returned (.tuple #[.agg #[.int .i64 x'.a, .int .i64 x'.b], .int .i64 e0]) ∧ Below w.heap.size w w'

set_option maxHeartbeats 2000000 in
theorem rtak_any (x : I2) (w : World) (h : TOk x) : Calls Try.prog 29 #[.agg #[.int .i64 x.a, .int .i64 x.b]] w (RefPost2 w (takX x) (takE x)) := by
  obtain ⟨a, b⟩ := x
  obtain ⟨h1, h2, h3⟩ := h
  dsimp only at *
  by_cases hf : b ≤ a
  · have e1 : Hid (takX ⟨a, b⟩ = ⟨a, b⟩ ∧ takE ⟨a, b⟩ = 5) := by constructor <;> simp [takX, takE, hf]
    rw [e1.out.1, e1.out.2]
    go_enter Try.func29, Try.ntmps29
    go_wp2
    exact bodyPost_ret (v := .tuple #[.agg #[.int .i64 a, .int .i64 b], .int .i64 5]) (by simp [results, Try.results29, go_sem]) rfl ⟨rfl, ((Below.refl _ _).alloc (Nat.le_refl _) _).alloc (by simp) _⟩
  · have e1 : Hid (takX ⟨a, b⟩ = ⟨a + 1, b⟩ ∧ takE ⟨a, b⟩ = 0) := by constructor <;> simp [takX, takE, hf]
    rw [e1.out.1, e1.out.2]
    go_enter Try.func29, Try.ntmps29
    go_wp2
    exact bodyPost_ret (v := .tuple #[.agg #[.int .i64 (a + 1), .int .i64 b], .int .i64 0]) (by simp [results, Try.results29, go_sem]) rfl ⟨rfl, ((Below.refl _ _).alloc (Nat.le_refl _) _).alloc (by simp) _⟩

set_option maxHeartbeats 2000000 in
theorem rrai_any (x : I2) (n : Int) (w : World) (h : TOk x) : Calls Try.prog 28 #[.agg #[.int .i64 x.a, .int .i64 x.b], .int .i64 n] w (RefPost2 w (raiX x n) (raiE x n)) := by
  obtain ⟨a, b⟩ := x
  obtain ⟨h1, h2, h3⟩ := h
  dsimp only at *
  have hcase : n < 0 ∨ (¬ n < 0 ∧ 1099511627776 < n) ∨ (¬ n < 0 ∧ ¬ 1099511627776 < n ∧ b < n) ∨ (¬ n < 0 ∧ ¬ 1099511627776 < n ∧ n ≤ b) := by omega
  rcases hcase with hn | ⟨hn, hn2⟩ | ⟨hn, hn2, hbn⟩ | ⟨hn, hn2, hbn⟩
  · have e1 : Hid (raiX ⟨a, b⟩ n = ⟨a, b⟩ ∧ raiE ⟨a, b⟩ n = 2) := by constructor <;> simp only [raiX, raiE, if_pos (Or.inl hn)]
    rw [e1.out.1, e1.out.2]
    go_enter Try.func28, Try.ntmps28
    go_wp2
    exact bodyPost_ret (v := .tuple #[.agg #[.int .i64 a, .int .i64 b], .int .i64 2]) (by simp [results, Try.results28, go_sem]) rfl ⟨rfl, ((Below.refl _ _).alloc (Nat.le_refl _) _).alloc (by simp) _⟩
  · have e1 : Hid (raiX ⟨a, b⟩ n = ⟨a, b⟩ ∧ raiE ⟨a, b⟩ n = 2) := by constructor <;> simp only [raiX, raiE, if_pos (Or.inr hn2)]
    rw [e1.out.1, e1.out.2]
    go_enter Try.func28, Try.ntmps28
    go_wp2
    exact bodyPost_ret (v := .tuple #[.agg #[.int .i64 a, .int .i64 b], .int .i64 2]) (by simp [results, Try.results28, go_sem]) rfl ⟨rfl, ((Below.refl _ _).alloc (Nat.le_refl _) _).alloc (by simp) _⟩
  · have e1 : Hid (raiX ⟨a, b⟩ n = ⟨a, n⟩ ∧ raiE ⟨a, b⟩ n = 0) := by
      constructor
      · unfold raiX; rw [if_neg (by omega)]; show (⟨a, max b n⟩ : I2) = ⟨a, n⟩; rw [show max b n = n by omega]
      · unfold raiE; rw [if_neg (by omega)]
    rw [e1.out.1, e1.out.2]
    go_enter Try.func28, Try.ntmps28
    go_wp2
    exact bodyPost_ret (v := .tuple #[.agg #[.int .i64 a, .int .i64 n], .int .i64 0]) (by simp [results, Try.results28, go_sem]) rfl ⟨rfl, ((Below.refl _ _).alloc (Nat.le_refl _) _).alloc (by simp) _⟩
  · have e1 : Hid (raiX ⟨a, b⟩ n = ⟨a, b⟩ ∧ raiE ⟨a, b⟩ n = 0) := by
      constructor
      · unfold raiX; rw [if_neg (by omega)]; show (⟨a, max b n⟩ : I2) = ⟨a, b⟩; rw [show max b n = b by omega]
      · unfold raiE; rw [if_neg (by omega)]
    rw [e1.out.1, e1.out.2]
    go_enter Try.func28, Try.ntmps28
    go_wp2
    exact bodyPost_ret (v := .tuple #[.agg #[.int .i64 a, .int .i64 b], .int .i64 0]) (by simp [results, Try.results28, go_sem]) rfl ⟨rfl, ((Below.refl _ _).alloc (Nat.le_refl _) _).alloc (by simp) _⟩

theorem Try.infoRT : (Try.prog.info? 54).map (fun i => (i.zero, i.size, i.bytes)) = some (some (.agg #[.int .i64 0, .int .i64 0]), 2, 16) := by kernel_rfl
theorem make_rtak (w : World) (n : Nat) (h : n ≤ 1000) : (Instr.makeSlice 52 (.int .i64 n) (.int .i64 n)).run Try.prog w =
    .ok (.slice (some ⟨w.heap.size, 0, none⟩) n n) (w.alloc (.cells (cs2 (List.replicate n ⟨0, 0⟩)).toArray 54)) := by
  obtain ⟨i, hi, hz, hs, hb⟩ := info_parts Try.infoRT
  rw [run_make w 52 54 i _ Try.underlying52 hi hz .i64 .i64 n n (by omega) (by omega) (by rw [hb]; omega) (by omega)]
  have e : madeCells (Value.agg #[.int .i64 0, .int .i64 0]).cells (((n : Int).toNat) * i.size) = (cs2 (List.replicate n ⟨0, 0⟩)).toArray := by
    rw [hs, Int.toNat_natCast]
    apply Array.toList_inj.1
    rw [show (Value.agg #[.int .i64 0, .int .i64 0]).cells = #[.int .i64 0, .int .i64 0] from rfl, made2_list]
    simp [cs2, List.flatMap, c2]
  rw [e, Int.toNat_natCast]

theorem upd_set1 {b : Nat} {w0 w : World} (h : Upd (fun k => k = b) w0 w) {p : Addr} (hp : p.block = b) (v : Value) : Upd (fun k => k = b) w0 (w.setCell p v) := h.setCell p v (fun _ => hp)
theorem blks2_set {w : World} {b : Nat} {T : TypeId} {l : List I2} (h : Blk w b T (cs2 l)) {c : Nat} {x : I2} (hx : l[c]? = some x) (y : I2) :
    Blk ((w.setCell ⟨b, c * 2, none⟩ (.int .i64 y.a)).setCell ⟨b, c * 2 + 1, none⟩ (.int .i64 y.b)) b T (cs2 (l.set c y)) := by
  have h1 := blk2_setB (blk2_setA h hx y.a) (get_set_self hx _) y.b
  rw [set_set_same] at h1
  exact h1

/-- A taker, the reference's list of takers, and the act of the round. -/
structure TkMem (W : World) (g cb mg n : Nat) (l : List I2) (w : World) : Prop where
  hT : TAt w W.heap.size g cb l
  hM : Blk w mg 54 (cs2 l)
  hl : l.length = n
  n1 : mg ≠ g
  n2 : mg ≠ cb
  wm : W.heap.size ≤ mg
  ok : ∀ x ∈ l, TOk x
  bel : Below W.heap.size W w
structure TkX (W : World) (g cb mg n : Nat) (l : List I2) (bx : Nat) (xa xb xc : Int) (w : World) : Prop where
  m : TkMem W g cb mg n l w
  hx : Blk w bx 34 [.int .i64 xa, .int .i64 xb, .int .i64 xc]
  x1 : bx ≠ cb
  x2 : bx ≠ mg
  x3 : W.heap.size ≤ bx
/-- The taker has taken its step; the reference has not yet. -/
structure TkH (W : World) (g cb mg : Nat) (l l' : List I2) (bx : Nat) (xa xb xc : Int) (w : World) : Prop where
  hT : TAt w W.heap.size g cb l'
  hM : Blk w mg 54 (cs2 l)
  hx : Blk w bx 34 [.int .i64 xa, .int .i64 xb, .int .i64 xc]
  bel : Below W.heap.size W w
section
variable {W : World} {g cb mg n : Nat} {l l' : List I2} {bx : Nat} {xa xb xc : Int} {w w' : World}
theorem TkMem.below (h : TkMem W g cb mg n l w) (b : Below w.heap.size w w') : TkMem W g cb mg n l w' :=
  ⟨h.hT.below b, h.hM.upd (S := fun _ => False) (Upd.of_below b) id, h.hl, h.n1, h.n2, h.wm, h.ok, h.bel.trans (b.mono h.bel.size)⟩
theorem TkMem.get (h : TkMem W g cb mg n l w) {c : Nat} (hc : c < n) : ∃ x, Hid (l[c]? = some x) ∧ TOk x := by
  have hc' : c < l.length := by rw [h.hl]; exact hc
  exact ⟨l[c], by show l[c]? = _; simp [hc'], h.ok _ (List.getElem_mem hc')⟩
theorem TkX.below (h : TkX W g cb mg n l bx xa xb xc w) (b : Below w.heap.size w w') : TkX W g cb mg n l bx xa xb xc w' :=
  ⟨h.m.below b, h.hx.upd (S := fun _ => False) (Upd.of_below b) id, h.x1, h.x2, h.x3⟩
theorem TkX.drew (h : TkX W g cb mg n l bx xa xb xc w) : TkX W g cb mg n l bx xa xb xc w.drew := h.below ((Qt.refl w).drewN 1).bel
theorem TkX.cells (h : TkX W g cb mg n l bx xa xb xc w) :
    w.cell? ⟨bx, 0, none⟩ = some (.int .i64 xa) ∧ w.cell? ⟨bx, 1, none⟩ = some (.int .i64 xb) ∧ w.cell? ⟨bx, 2, none⟩ = some (.int .i64 xc) := ⟨h.hx.cell rfl, h.hx.cell rfl, h.hx.cell rfl⟩
theorem TkX.new (h : TkMem W g cb mg n l w) (xa xb xc : Int) :
    TkX W g cb mg n l w.heap.size xa xb xc (w.alloc (.cells #[.int .i64 xa, .int .i64 xb, .int .i64 xc] 34)) := by
  have h1 := h.hT.hc.lt
  have h2 := h.hM.lt
  exact ⟨h.below ((Below.refl _ _).alloc (Nat.le_refl _) _), Blk.new w _ [.int .i64 xa, .int .i64 xb, .int .i64 xc], by omega, by omega, h.bel.size⟩
theorem TkH.below (h : TkH W g cb mg l l' bx xa xb xc w) (b : Below w.heap.size w w') : TkH W g cb mg l l' bx xa xb xc w' :=
  ⟨h.hT.below b, h.hM.upd (S := fun _ => False) (Upd.of_below b) id, h.hx.upd (S := fun _ => False) (Upd.of_below b) id, h.bel.trans (b.mono h.bel.size)⟩
theorem TkH.drew (h : TkH W g cb mg l l' bx xa xb xc w) : TkH W g cb mg l l' bx xa xb xc w.drew := h.below ((Qt.refl w).drewN 1).bel
theorem TkX.half (h : TkX W g cb mg n l bx xa xb xc w) (u : Upd (fun k => k = cb) w w') (hT : TAt w' W.heap.size g cb l') : TkH W g cb mg l l' bx xa xb xc w' :=
  ⟨hT, h.m.hM.upd u h.m.n2, h.hx.upd u h.x1, Upd.below h.m.bel u h.m.bel.size fun i hi => by have := h.m.hT.b2; omega⟩
theorem TkX.store {w0 : World} (h : TkX W g cb mg n l bx xa xb xc w0) {c : Nat} {x x' : I2} (hx : l[c]? = some x) (hs : TOk x → TOk x') (h' : TkH W g cb mg l (l.set c x') bx xa xb xc w) :
    TkX W g cb mg n (l.set c x') bx xa xb xc ((w.setCell ⟨mg, c * 2, none⟩ (.int .i64 x'.a)).setCell ⟨mg, c * 2 + 1, none⟩ (.int .i64 x'.b)) := by
  have u : Upd (fun k => k = mg) w ((w.setCell ⟨mg, c * 2, none⟩ (.int .i64 x'.a)).setCell ⟨mg, c * 2 + 1, none⟩ (.int .i64 x'.b)) :=
    upd_set1 (b := mg) (w0 := w) (p := ⟨mg, c * 2 + 1, none⟩) (upd_set1 (b := mg) (w0 := w) (p := ⟨mg, c * 2, none⟩) (Upd.refl _ w) rfl _) rfl _
  refine ⟨⟨h'.hT.upd u (Ne.symm h.m.n1) (Ne.symm h.m.n2), blks2_set h'.hM hx x', by rw [List.length_set]; exact h.m.hl, h.m.n1, h.m.n2, h.m.wm, ?_, Upd.below h'.bel u h'.bel.size fun i hi => by have := h.m.wm; omega⟩, h'.hx.upd u h.x2, h.x1, h.x2, h.x3⟩
  intro y hy
  rcases List.mem_or_eq_of_mem_set hy with hy | rfl
  · exact h.m.ok y hy
  · exact hs (h.m.ok x (List.mem_of_getElem? hx))
theorem stp_tak (x : I2) : TOk x → TOk (takX x) := by
  intro ⟨h1, h2, h3⟩
  unfold takX
  split
  · exact ⟨h1, h2, h3⟩
  · exact ⟨by dsimp only; omega, by dsimp only; omega, h3⟩
theorem stp_rai (x : I2) (n : Int) : TOk x → TOk (raiX x n) := by
  intro ⟨h1, h2, h3⟩
  unfold raiX
  split
  · exact ⟨h1, h2, h3⟩
  · exact ⟨h1, by dsimp only; omega, by dsimp only; omega⟩
def RetT (W : World) (g cb mg n : Nat) (l : List I2) (bx : Nat) (xa xb xc : Int) (v : Int) (e : Ending) (w : World) : Prop := e = .returned (.int .i64 v) ∧ TkX W g cb mg n l bx xa xb xc w
theorem sent_x (h : TkX W g cb mg n l bx xa xb xc w) {j : Nat} {ya yb : Int} (hy : l[j]? = some ⟨ya, yb⟩) (ho : TOk ⟨ya, yb⟩) (hl : l.length ≤ 1000) :
    Calls Try.prog 26 #[.pointer (some ⟨g, 0, none⟩), .int .i64 j] w (RetT W g cb mg n l bx xa xb xc ya) :=
  (sent_ok w _ _ _ j _ _ h.m.hT hy ho hl).mono fun e w' ⟨h1, h2⟩ => ⟨h1, h.below h2⟩
theorem left_x (h : TkX W g cb mg n l bx xa xb xc w) {j : Nat} {ya yb : Int} (hy : l[j]? = some ⟨ya, yb⟩) (ho : TOk ⟨ya, yb⟩) (hl : l.length ≤ 1000) :
    Calls Try.prog 25 #[.pointer (some ⟨g, 0, none⟩), .int .i64 j] w (RetT W g cb mg n l bx xa xb xc (yb - ya)) :=
  (left_ok w _ _ _ j _ _ h.m.hT hy ho hl).mono fun e w' ⟨h1, h2⟩ => ⟨h1, h.below h2⟩
end
def TkRel (W : World) (g cb mg n : Nat) (len : Nat) (i : Value) (w : World) : Prop := ∃ k : Nat, k ≤ len ∧ i = .int .i64 k ∧ ∃ l, TkMem W g cb mg n l w
def TkIn (W : World) (g cb mg n : Nat) (l : List I2) (bx : Nat) (xa xb xc : Int) (i : Value) (w : World) : Prop := ∃ j : Nat, j ≤ n ∧ i = .int .i64 j ∧ TkX W g cb mg n l bx xa xb xc w
end Go.Proofs.Ytdfmahedhadfoaa
