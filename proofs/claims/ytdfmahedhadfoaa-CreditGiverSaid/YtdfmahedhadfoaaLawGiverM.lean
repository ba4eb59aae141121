/-
  Memory of the law CreditGiver: a giver, and the reference's list of givers.
-/
import Derived.Test.YtdfmahedhadfoaaAwake
import Derived.Test.YtdfmahedhadfoaaOwn
namespace Go.Proofs.Ytdfmahedhadfoaa
open Go.RowKit
set_option linter.unusedVariables false

theorem cs3_app {l : List I3} {sp : List Value} {i : Nat} {v : Value} (h : (cs3 l)[i]? = some v) : (cs3 l ++ sp)[i]? = some v := by
  have := get_lt h
  rw [List.getElem?_append_left this]; exact h
theorem blks3 {w : World} {b : Nat} {T : TypeId} {l : List I3} {sp : List Value} (h : Blk w b T (cs3 l ++ sp)) {c : Nat} {x : I3} (hx : l[c]? = some x) :
    w.cell? ⟨b, c * 3, none⟩ = some (.int .i64 x.a) ∧ w.cell? ⟨b, c * 3 + 1, none⟩ = some (.int .i64 x.b) ∧ w.cell? ⟨b, c * 3 + 2, none⟩ = some (.int .i64 x.c) :=
  ⟨h.cell (cs3_app (cs3_get hx).1), h.cell (cs3_app (cs3_get hx).2.1), h.cell (cs3_app (cs3_get hx).2.2)⟩
theorem blks3_set {w : World} {b : Nat} {T : TypeId} {l : List I3} {sp : List Value} (h : Blk w b T (cs3 l ++ sp)) {c : Nat} {x : I3} (hx : l[c]? = some x) (y : I3) :
    Blk (((w.setCell ⟨b, c * 3, none⟩ (.int .i64 y.a)).setCell ⟨b, c * 3 + 1, none⟩ (.int .i64 y.b)).setCell ⟨b, c * 3 + 2, none⟩ (.int .i64 y.c)) b T (cs3 (l.set c y) ++ sp) := by
  have hc := get_lt hx
  have hl := cs3_len l
  have e : cs3 (l.set c y) = (((cs3 l).set (c * 3) (.int .i64 y.a)).set (c * 3 + 1) (.int .i64 y.b)).set (c * 3 + 2) (.int .i64 y.c) := by
    rw [cs3_setA hx, cs3_setB (get_set_self hx _), cs3_setC (get_set_self (get_set_self hx _) _), set_set_same, set_set_same]
  have h1 := ((h.set (c * 3) (.int .i64 y.a)).set (c * 3 + 1) (.int .i64 y.b)).set (c * 3 + 2) (.int .i64 y.c)
  rw [List.set_append_left _ _ (by omega), List.set_append_left _ _ (by simp; omega), List.set_append_left _ _ (by simp; omega), ← e] at h1
  exact h1
theorem own3_blk {w : World} {base : Nat} {e : TypeId} {v : Value} {n : Nat} {l : List I3} (h : w.ownsRow base e 3 v n (cs3 l)) (hx : l ≠ []) :
    ∃ g sp c, v = .slice (some ⟨g, 0, none⟩) n c ∧ base ≤ g ∧ Blk w g e (cs3 l ++ sp) ∧ n = l.length := by
  obtain ⟨h1, h⟩ := h
  have hn : n = l.length := by rw [cs3_len] at h1; omega
  rcases h with ⟨_, h0⟩ | ⟨g, cap, cur, hv, hg, hh, h3, h4, h5, h6⟩
  · exact absurd (List.eq_nil_of_length_eq_zero (by omega)) hx
  · refine ⟨g, cur.toList.drop (n * 3), cap, hv, hg, ?_, hn⟩
    unfold Blk
    rw [← h6, List.take_append_drop]
    exact hh

/-- A giver from block base on, and the reference's list of givers in block mg: they hold the same. -/
structure GvMem (W : World) (B g cb mg : Nat) (n : Nat) (sp : List Value) (K : Int) (l : List I3) (w : World) : Prop where
  hG : GAt w B g cb l
  hM : Blk w mg 32 (cs3 l ++ sp)
  hl : l.length = n
  n1 : mg ≠ g
  n2 : mg ≠ cb
  wB : W.heap.size ≤ B
  wm : W.heap.size ≤ mg
  ok : ∀ x ∈ l, GOk x ∧ x.c ≤ K
  bel : Below W.heap.size W w
theorem GvMem.below {W : World} {B g cb mg n : Nat} {sp : List Value} {K : Int} {l : List I3} {w w' : World} (h : GvMem W B g cb mg n sp K l w) (b : Below w.heap.size w w') : GvMem W B g cb mg n sp K l w' :=
  ⟨h.hG.below b, h.hM.upd (S := fun _ => False) (Upd.of_below b) id, h.hl, h.n1, h.n2, h.wB, h.wm, h.ok, h.bel.trans (b.mono h.bel.size)⟩
theorem GvMem.drew {W : World} {B g cb mg n : Nat} {sp : List Value} {K : Int} {l : List I3} {w : World} (h : GvMem W B g cb mg n sp K l w) : GvMem W B g cb mg n sp K l w.drew := h.below ((Qt.refl w).drewN 1).bel
theorem GvMem.get {W : World} {B g cb mg n : Nat} {sp : List Value} {K : Int} {l : List I3} {w : World} (h : GvMem W B g cb mg n sp K l w) {c : Nat} (hc : c < n) : ∃ x, Hid (l[c]? = some x) ∧ GOk x ∧ x.c ≤ K := by
  have hc' : c < l.length := by rw [h.hl]; exact hc
  exact ⟨l[c], by show l[c]? = _; simp [hc'], h.ok _ (List.getElem_mem hc')⟩
/-- What a step of the giver makes of its counters stays within bounds. -/
structure Stp (x x' : I3) : Prop where
  ok : GOk x → x.c ≤ 99900 → GOk x'
  up : GOk x → x'.c ≤ x.c + 64
theorem stp_rec (x : I3) : Stp x (recX x) := by
  constructor
  · intro ⟨h1, h2, h3, h4, h5, h6⟩ h7
    unfold recX
    split
    · exact ⟨h1, h2, h3, h4, h5, h6⟩
    · exact ⟨h1, h2, h3, by dsimp only; omega, by dsimp only; omega, h6⟩
  · intro _; unfold recX; split <;> (try dsimp only) <;> omega
theorem stp_fre (x : I3) : Stp x (freX x) := by
  constructor
  · intro ⟨h1, h2, h3, h4, h5, h6⟩ h7
    unfold freX
    split
    · exact ⟨h1, h2, h3, h4, h5, h6⟩
    · exact ⟨h1, h2, by dsimp only; omega, by dsimp only; omega, by dsimp only; omega, by dsimp only; omega⟩
  · intro _; unfold freX; split <;> (try dsimp only) <;> omega
theorem stp_aud (x : I3) (s : Int) : Stp x (audX x s) := by
  constructor
  · intro ⟨h1, h2, h3, h4, h5, h6⟩ h7
    unfold audX
    split
    · exact ⟨h1, h2, h3, h4, h5, h6⟩
    · exact ⟨h1, h2, by dsimp only; omega, by dsimp only; omega, by dsimp only; omega, by dsimp only; omega⟩
  · intro ⟨h1, h2, h3, h4, h5, h6⟩; unfold audX; split <;> (try dsimp only) <;> omega
/-- Both have taken the step x to x' in class c. -/
theorem GvMem.turn {W : World} {B g cb mg n : Nat} {sp : List Value} {K : Int} {l : List I3} {w w1 : World} (h : GvMem W B g cb mg n sp K l w) {c : Nat} {x x' : I3} (hx : l[c]? = some x) (hs : Stp x x') (hK : K ≤ 99900)
    (hG : GAt w1 B g cb (l.set c x')) (hM : Blk w1 mg 32 (cs3 (l.set c x') ++ sp)) (u : Below W.heap.size W w1) : GvMem W B g cb mg n sp (K + 64) (l.set c x') w1 := by
  refine ⟨hG, hM, by rw [List.length_set]; exact h.hl, h.n1, h.n2, h.wB, h.wm, ?_, u⟩
  intro y hy
  rcases List.mem_or_eq_of_mem_set hy with hy | rfl
  · obtain ⟨h1, h2⟩ := h.ok y hy
    exact ⟨h1, by omega⟩
  · obtain ⟨h1, h2⟩ := h.ok x (List.mem_of_getElem? hx)
    exact ⟨hs.ok h1 (by omega), by have := hs.up h1; omega⟩
theorem GvMem.wide {W : World} {B g cb mg n : Nat} {sp : List Value} {K K' : Int} {l : List I3} {w : World} (h : GvMem W B g cb mg n sp K l w) (hK : K ≤ K') : GvMem W B g cb mg n sp K' l w :=
  ⟨h.hG, h.hM, h.hl, h.n1, h.n2, h.wB, h.wm, fun x hx => ⟨(h.ok x hx).1, by have := (h.ok x hx).2; omega⟩, h.bel⟩
theorem GvMem.updG {W : World} {B g cb mg n : Nat} {sp : List Value} {K : Int} {l : List I3} {w w1 : World} (h : GvMem W B g cb mg n sp K l w) (u : Upd (fun k => k = cb) w w1) :
    Blk w1 mg 32 (cs3 l ++ sp) ∧ Below W.heap.size W w1 :=
  ⟨h.hM.upd u h.n2, Upd.below h.bel u h.bel.size fun i hi => by have := h.hG.b2; have := h.wB; omega⟩

theorem upd_set1 {b : Nat} {w0 w : World} (h : Upd (fun k => k = b) w0 w) {p : Addr} (hp : p.block = b) (v : Value) : Upd (fun k => k = b) w0 (w.setCell p v) := h.setCell p v (fun _ => hp)
theorem far1 {w : World} {p q : Addr} {v u : Value} (hne : q.block ≠ p.block) (h : w.cell? q = some u) : (w.setCell p v).cell? q = some u := by
  rw [(upd_set1 (b := p.block) (Upd.refl _ w) rfl v).cell (World.block_lt_of_cell? _ _ h) hne]; exact h
theorem far3 {w : World} {b1 b : Nat} {i j k n : Nat} {x y z u : Value} (hne : b ≠ b1) (h : w.cell? ⟨b, n, none⟩ = some u) :
    (((w.setCell ⟨b1, i, none⟩ x).setCell ⟨b1, j, none⟩ y).setCell ⟨b1, k, none⟩ z).cell? ⟨b, n, none⟩ = some u :=
  far1 hne (far1 hne (far1 hne h))
/-- The memory of a round: the act x lies at block bx. -/
structure GvX (W : World) (B g cb mg n : Nat) (sp : List Value) (K : Int) (l : List I3) (bx : Nat) (xa xb xc : Int) (w : World) : Prop where
  m : GvMem W B g cb mg n sp K l w
  hx : Blk w bx 34 [.int .i64 xa, .int .i64 xb, .int .i64 xc]
  x1 : bx ≠ cb
  x2 : bx ≠ mg
  x3 : W.heap.size ≤ bx
theorem GvX.below {W : World} {B g cb mg n : Nat} {sp : List Value} {K : Int} {l : List I3} {bx : Nat} {xa xb xc : Int} {w w' : World} (h : GvX W B g cb mg n sp K l bx xa xb xc w) (b : Below w.heap.size w w') : GvX W B g cb mg n sp K l bx xa xb xc w' :=
  ⟨h.m.below b, h.hx.upd (S := fun _ => False) (Upd.of_below b) id, h.x1, h.x2, h.x3⟩
theorem GvX.drew {W : World} {B g cb mg n : Nat} {sp : List Value} {K : Int} {l : List I3} {bx : Nat} {xa xb xc : Int} {w : World} (h : GvX W B g cb mg n sp K l bx xa xb xc w) : GvX W B g cb mg n sp K l bx xa xb xc w.drew := h.below ((Qt.refl w).drewN 1).bel
theorem GvX.cells {W : World} {B g cb mg n : Nat} {sp : List Value} {K : Int} {l : List I3} {bx : Nat} {xa xb xc : Int} {w : World} (h : GvX W B g cb mg n sp K l bx xa xb xc w) :
    w.cell? ⟨bx, 0, none⟩ = some (.int .i64 xa) ∧ w.cell? ⟨bx, 1, none⟩ = some (.int .i64 xb) ∧ w.cell? ⟨bx, 2, none⟩ = some (.int .i64 xc) := ⟨h.hx.cell rfl, h.hx.cell rfl, h.hx.cell rfl⟩
theorem GvX.wide {W : World} {B g cb mg n : Nat} {sp : List Value} {K K' : Int} {l : List I3} {bx : Nat} {xa xb xc : Int} {w : World} (h : GvX W B g cb mg n sp K l bx xa xb xc w) (hK : K ≤ K') : GvX W B g cb mg n sp K' l bx xa xb xc w := ⟨h.m.wide hK, h.hx, h.x1, h.x2, h.x3⟩
theorem GvX.new {W : World} {B g cb mg n : Nat} {sp : List Value} {K : Int} {l : List I3} {w : World} (h : GvMem W B g cb mg n sp K l w) (xa xb xc : Int) :
    GvX W B g cb mg n sp K l w.heap.size xa xb xc (w.alloc (.cells #[.int .i64 xa, .int .i64 xb, .int .i64 xc] 34)) := by
  have h1 := h.hG.hc.lt
  have h2 := h.hM.lt
  exact ⟨h.below ((Below.refl _ _).alloc (Nat.le_refl _) _), Blk.new w _ [.int .i64 xa, .int .i64 xb, .int .i64 xc], by omega, by omega, h.bel.size⟩
/-- The giver has taken its step; the reference has not yet. -/
structure GvH (W : World) (B g cb mg n : Nat) (sp : List Value) (l l' : List I3) (bx : Nat) (xa xb xc : Int) (w : World) : Prop where
  hG : GAt w B g cb l'
  hM : Blk w mg 32 (cs3 l ++ sp)
  hx : Blk w bx 34 [.int .i64 xa, .int .i64 xb, .int .i64 xc]
  bel : Below W.heap.size W w
theorem GvX.half {W : World} {B g cb mg n : Nat} {sp : List Value} {K : Int} {l l' : List I3} {bx : Nat} {xa xb xc : Int} {w w' : World} (h : GvX W B g cb mg n sp K l bx xa xb xc w) (u : Upd (fun k => k = cb) w w') (hG : GAt w' B g cb l') : GvH W B g cb mg n sp l l' bx xa xb xc w' :=
  ⟨hG, (h.m.updG u).1, h.hx.upd u h.x1, (h.m.updG u).2⟩
theorem GvH.below {W : World} {B g cb mg n : Nat} {sp : List Value} {l l' : List I3} {bx : Nat} {xa xb xc : Int} {w w' : World} (h : GvH W B g cb mg n sp l l' bx xa xb xc w) (b : Below w.heap.size w w') : GvH W B g cb mg n sp l l' bx xa xb xc w' :=
  ⟨h.hG.below b, h.hM.upd (S := fun _ => False) (Upd.of_below b) id, h.hx.upd (S := fun _ => False) (Upd.of_below b) id, h.bel.trans (b.mono h.bel.size)⟩
theorem GvH.drew {W : World} {B g cb mg n : Nat} {sp : List Value} {l l' : List I3} {bx : Nat} {xa xb xc : Int} {w : World} (h : GvH W B g cb mg n sp l l' bx xa xb xc w) : GvH W B g cb mg n sp l l' bx xa xb xc w.drew := h.below ((Qt.refl w).drewN 1).bel
/-- The reference's step is stored. -/
theorem GvX.store {W : World} {B g cb mg n : Nat} {sp : List Value} {K : Int} {l : List I3} {bx : Nat} {xa xb xc : Int} {w0 w : World} (h : GvX W B g cb mg n sp K l bx xa xb xc w0) {c : Nat} {x x' : I3} (hx : l[c]? = some x) (hs : Stp x x') (hK : K ≤ 99900)
    (h' : GvH W B g cb mg n sp l (l.set c x') bx xa xb xc w) :
    GvX W B g cb mg n sp (K + 64) (l.set c x') bx xa xb xc (((w.setCell ⟨mg, c * 3, none⟩ (.int .i64 x'.a)).setCell ⟨mg, c * 3 + 1, none⟩ (.int .i64 x'.b)).setCell ⟨mg, c * 3 + 2, none⟩ (.int .i64 x'.c)) := by
  have u : Upd (fun k => k = mg) w (((w.setCell ⟨mg, c * 3, none⟩ (.int .i64 x'.a)).setCell ⟨mg, c * 3 + 1, none⟩ (.int .i64 x'.b)).setCell ⟨mg, c * 3 + 2, none⟩ (.int .i64 x'.c)) :=
    upd_set1 (b := mg) (w0 := w) (p := ⟨mg, c * 3 + 2, none⟩) (upd_set1 (b := mg) (w0 := w) (p := ⟨mg, c * 3 + 1, none⟩) (upd_set1 (b := mg) (w0 := w) (p := ⟨mg, c * 3, none⟩) (Upd.refl _ w) rfl _) rfl _) rfl _
  refine ⟨h.m.turn hx hs hK (h'.hG.upd u (Ne.symm h.m.n1) (Ne.symm h.m.n2)) (blks3_set h'.hM hx x') (Upd.below h'.bel u h'.bel.size fun i hi => by have := h.m.wm; omega), h'.hx.upd u h.x2, h.x1, h.x2, h.x3⟩

def RetX (W : World) (B g cb mg n : Nat) (sp : List Value) (K : Int) (l : List I3) (bx : Nat) (xa xb xc : Int) (v : Int) (e : Ending) (w : World) : Prop := e = .returned (.int .i64 v) ∧ GvX W B g cb mg n sp K l bx xa xb xc w
section
variable {W : World} {B g cb mg n : Nat} {sp : List Value} {K : Int} {l : List I3} {bx : Nat} {xa xb xc : Int} {w : World}
theorem lim_x (h : GvX W B g cb mg n sp K l bx xa xb xc w) {j : Nat} {ya yb yc : Int} (hy : l[j]? = some ⟨ya, yb, yc⟩) (ho : GOk ⟨ya, yb, yc⟩) (hl : l.length ≤ 1000) :
    Calls Try.prog 17 #[.pointer (some ⟨g, 0, none⟩), .int .i64 j] w (RetX W B g cb mg n sp K l bx xa xb xc (ya + yc)) :=
  (lim_ok w _ _ _ j _ _ h.m.hG hy ho hl).mono fun e w' ⟨h1, h2⟩ => ⟨h1, h.below h2⟩
theorem held_x (h : GvX W B g cb mg n sp K l bx xa xb xc w) {j : Nat} {ya yb yc : Int} (hy : l[j]? = some ⟨ya, yb, yc⟩) (ho : GOk ⟨ya, yb, yc⟩) (hl : l.length ≤ 1000) :
    Calls Try.prog 18 #[.pointer (some ⟨g, 0, none⟩), .int .i64 j] w (RetX W B g cb mg n sp K l bx xa xb xc (yb - yc)) :=
  (held_ok w _ _ _ j _ _ h.m.hG hy ho hl).mono fun e w' ⟨h1, h2⟩ => ⟨h1, h.below h2⟩
theorem rlim_x (h : GvX W B g cb mg n sp K l bx xa xb xc w) {ya yb yc : Int} (ho : GOk ⟨ya, yb, yc⟩) :
    Calls Try.prog 22 #[.agg #[.int .i64 ya, .int .i64 yb, .int .i64 yc]] w (RetX W B g cb mg n sp K l bx xa xb xc (ya + yc)) :=
  (rlimit_any ⟨ya, yb, yc⟩ w ho).mono fun e w' ⟨h1, h2⟩ => ⟨h1, h.below h2⟩
end
end Go.Proofs.Ytdfmahedhadfoaa
