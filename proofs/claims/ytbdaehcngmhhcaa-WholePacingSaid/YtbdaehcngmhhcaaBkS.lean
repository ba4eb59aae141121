/-
  The memory of admit's Books once their links are a row of a known block; what Reserve keeps in its loops.
  The closures of admit's Reserve (short, charge), IndexFunc over them.
-/
import Derived.Test.YtbdaehcngmhhcaaBkC
import Derived.Test.YtbdaehcngmhhcaaMkM
namespace Go.Proofs.Ytbdaehcngmhhcaa
open Go.RowKit
set_option linter.unusedVariables false

/-- The books, made behind w; the links lie in block lb. -/
structure BkB (w wr : World) (bb mb lb n lc : Nat) (sp : List Value) (cp lf : Nat → Rq) (k : Nat) (F : Nat → Option Rs) : Prop where
  b_ : w.heap.size ≤ bb
  m_ : w.heap.size ≤ mb
  l_ : w.heap.size ≤ lb
  bl : bb ≠ lb
  bm : bb ≠ mb
  lm : lb ≠ mb
  b : Blk wr bb 87 [.slice (some ⟨lb, 0, none⟩) n lc, .map (some mb)]
  l : Blk wr lb 89 (flC lkC (lkF n cp lf) ++ sp)
  m : RsAt wr mb k F
  u : Below w.heap.size w wr
section
variable {w wr w' : World} {bb mb lb n lc k : Nat} {la : Option Addr} {sp : List Value} {cp lf : Nat → Rq} {F : Nat → Option Rs}
theorem BkAt.norm (h : BkAt w wr bb mb n la lc cp lf k F) (hn : 0 < n) : ∃ lb sp, la = some ⟨lb, 0, none⟩ ∧ BkB w wr bb mb lb n lc sp cp lf k F := by
  obtain ⟨g, sp, rfl, hg, hb, _⟩ := ownC_blk lkC_len (by decide) h.l (by
    intro e
    have := congrArg List.length e
    rw [lkF_len] at this
    simp at this
    omega)
  refine ⟨g, sp, rfl, h.b_, h.m_, hg, ?_, h.ne.1, blk_nm hb h.m, h.b, hb, h.m, h.u⟩
  intro e
  have h1 := h.b
  rw [e] at h1
  exact absurd (h1.tyB hb) (by decide)
theorem BkB.upd (h : BkB w wr bb mb lb n lc sp cp lf k F) {S : Nat → Prop} (q : Upd S wr w') (hS : ∀ i, S i → w.heap.size ≤ i ∧ i ≠ bb ∧ i ≠ mb ∧ i ≠ lb) : BkB w w' bb mb lb n lc sp cp lf k F :=
  ⟨h.b_, h.m_, h.l_, h.bl, h.bm, h.lm, h.b.upd q (fun e => (hS _ e).2.1 rfl), h.l.upd q (fun e => (hS _ e).2.2.2 rfl), h.m.upd q (fun e => (hS _ e).2.2.1 rfl), Upd.below h.u q (by have := h.b_; have := h.b.lt; omega) (fun i hi => (hS i hi).1)⟩
theorem BkB.below (h : BkB w wr bb mb lb n lc sp cp lf k F) (q : Below wr.heap.size wr w') : BkB w w' bb mb lb n lc sp cp lf k F := h.upd (S := fun _ => False) (Upd.of_below q) (fun _ => False.elim)
/-- Blocks made behind wr are written. -/
theorem BkB.far (h : BkB w wr bb mb lb n lc sp cp lf k F) {S : Nat → Prop} (q : Upd S wr w') (hS : ∀ i, S i → wr.heap.size ≤ i) : BkB w w' bb mb lb n lc sp cp lf k F :=
  h.upd q (fun i hi => by
    have h1 := hS i hi
    have h2 := h.b_
    have h3 := h.b.lt
    have h4 := h.m.lt
    have h5 := h.l.lt
    omega)
theorem lkG (h : BkB w wr bb mb lb n lc sp cp lf k F) {l : Nat} (hl : l < n) (j : Nat) (hj : j < 5) {v : Value} (hv : (lkC ⟨cp l, lf l⟩)[j]? = some v) : wr.cell? ⟨lb, l * 5 + j, none⟩ = some v := by
  refine h.l.cell ?_
  rw [List.getElem?_append_left (by rw [flC_len lkC_len, lkF_len]; omega), flC_get lkC_len (lkF_get cp lf hl) j hj]
  exact hv
/-- What a link reads as. -/
theorem BkB.cells (h : BkB w wr bb mb lb n lc sp cp lf k F) {l : Nat} (hl : l < n) : wr.cell? ⟨lb, l * 5, none⟩ = some (.int .i64 (cp l).n) ∧ wr.cell? ⟨lb, l * 5 + 1, none⟩ = some (.int .i64 (cp l).d) ∧
    wr.cell? ⟨lb, l * 5 + 2, none⟩ = some (.int .i64 (lf l).n) ∧ wr.cell? ⟨lb, l * 5 + 3, none⟩ = some (.int .i64 (lf l).d) ∧ wr.cell? ⟨lb, l * 5 + 4, none⟩ = some (.bool true) :=
  ⟨lkG h hl 0 (by decide) rfl, lkG h hl 1 (by decide) rfl, lkG h hl 2 (by decide) rfl, lkG h hl 3 (by decide) rfl, lkG h hl 4 (by decide) rfl⟩
/-- What a link has left is written. -/
theorem lk_set (n : Nat) (cp lf : Nat → Rq) {l : Nat} (hl : l < n) (r : Rq) (sp : List Value) :
    ((flC lkC (lkF n cp lf) ++ sp).set (l * 5 + 2) (.int .i64 r.n)).set (l * 5 + 3) (.int .i64 r.d) = flC lkC (lkF n cp (updQ lf l r)) ++ sp := by
  have hl1 : (flC lkC (lkF n cp lf)).length = n * 5 := by rw [flC_len lkC_len, lkF_len]
  have hl2 : (flC lkC (lkF n cp (updQ lf l r))).length = n * 5 := by rw [flC_len lkC_len, lkF_len]
  rw [List.set_append_left _ _ (by omega), List.set_append_left _ _ (by rw [List.length_set]; omega)]
  congr 1
  apply List.ext_getElem?
  intro j
  rw [List.getElem?_set, List.getElem?_set]
  simp only [List.length_set, hl1]
  by_cases hj : j < n * 5
  · have hq : j / 5 < n := by omega
    have h0 := flC_get lkC_len (lkF_get cp lf hq) (j % 5) (by omega)
    have h1 := flC_get lkC_len (lkF_get cp (updQ lf l r) hq) (j % 5) (by omega)
    rw [show j / 5 * 5 + j % 5 = j by omega] at h0 h1
    rw [h0, h1]
    unfold updQ
    by_cases c : j / 5 = l
    · rw [if_pos c]
      rcases (show j % 5 = 0 ∨ j % 5 = 1 ∨ j % 5 = 2 ∨ j % 5 = 3 ∨ j % 5 = 4 by omega) with p | p | p | p | p
      · rw [if_neg (by omega), if_neg (by omega), p]; rfl
      · rw [if_neg (by omega), if_neg (by omega), p]; rfl
      · rw [if_neg (by omega), if_pos (by omega), if_pos (by omega), p]; rfl
      · rw [if_pos (by omega), if_pos (by omega), p]; rfl
      · rw [if_neg (by omega), if_neg (by omega), p]; rfl
    · rw [if_neg c, if_neg (by omega), if_neg (by omega)]
  · rw [if_neg (by omega), if_neg (by omega), List.getElem?_eq_none (by omega), List.getElem?_eq_none (by omega)]
theorem BkB.put (h : BkB w wr bb mb lb n lc sp cp lf k F) {l : Nat} (hl : l < n) (r : Rq) :
    BkB w ((wr.setCell ⟨lb, l * 5 + 2, none⟩ (.int .i64 r.n)).setCell ⟨lb, l * 5 + 3, none⟩ (.int .i64 r.d)) bb mb lb n lc sp cp (updQ lf l r) k F := by
  have q : Upd (fun i => i = lb) wr ((wr.setCell ⟨lb, l * 5 + 2, none⟩ (.int .i64 r.n)).setCell ⟨lb, l * 5 + 3, none⟩ (.int .i64 r.d)) := ((Upd.refl (fun i => i = lb) wr).setCell _ _ (fun _ => rfl)).setCell _ _ (fun _ => rfl)
  refine ⟨h.b_, h.m_, h.l_, h.bl, h.bm, h.lm, h.b.upd q h.bl, ?_, h.m.upd q (fun e => h.lm e.symm), (h.u.setCell h.l_ _).setCell h.l_ _⟩
  rw [← lk_set n cp lf hl r sp]
  exact (h.l.set _ _).set _ _
end
/-- The books' units: a thousandth is 31104 of them. -/
def uW : Nat := 31104000
theorem uW_pos : 0 < uW := by decide
theorem uW_le : uW ≤ 536870912 := by decide
theorem Rp1.up {r : Rq} {k : Int} (h : Rp1 uU r k) : Rp1 uW r (k * 25) := by
  refine ⟨⟨h.rp.1, ?_⟩, h.d1⟩
  have h1 := h.rp.2
  have e : (uW : Int) = uU * 25 := by decide
  rw [e, ← Int.mul_assoc, h1]
  rw [Int.mul_assoc, Int.mul_comm (r.D : Int) 25, ← Int.mul_assoc]
theorem thousandth : Rp1 uW ⟨1, 1000⟩ 31104 := ⟨⟨.inr ⟨by decide, by decide⟩, by decide⟩, by decide⟩
end Go.Proofs.Ytbdaehcngmhhcaa
namespace Go.Proofs.Ytbdaehcngmhhcaa
open Go.RowKit
set_option linter.unusedVariables false

theorem bel_cell {w w' : World} (q : Below w.heap.size w w') {a : Addr} {v : Value} (h : w.cell? a = some v) : w'.cell? a = some v := by rw [q.cell (World.block_lt_of_cell? _ _ h)]; exact h
theorem keep7 {w w' : World} (q : Below w.heap.size w w') {a0 a1 a2 a3 a4 a5 a6 : Addr} {v0 v1 v2 v3 v4 v5 v6 : Value}
    (h : w.cell? a0 = some v0 ∧ w.cell? a1 = some v1 ∧ w.cell? a2 = some v2 ∧ w.cell? a3 = some v3 ∧ w.cell? a4 = some v4 ∧ w.cell? a5 = some v5 ∧ w.cell? a6 = some v6) :
    w'.cell? a0 = some v0 ∧ w'.cell? a1 = some v1 ∧ w'.cell? a2 = some v2 ∧ w'.cell? a3 = some v3 ∧ w'.cell? a4 = some v4 ∧ w'.cell? a5 = some v5 ∧ w'.cell? a6 = some v6 := by
  obtain ⟨h0, h1, h2, h3, h4, h5, h6⟩ := h
  exact ⟨bel_cell q h0, bel_cell q h1, bel_cell q h2, bel_cell q h3, bel_cell q h4, bel_cell q h5, bel_cell q h6⟩
theorem keep9 {w w' : World} (q : Below w.heap.size w w') {a0 a1 a2 a3 a4 a5 a6 a7 a8 : Addr} {v0 v1 v2 v3 v4 v5 v6 v7 v8 : Value}
    (h : w.cell? a0 = some v0 ∧ w.cell? a1 = some v1 ∧ w.cell? a2 = some v2 ∧ w.cell? a3 = some v3 ∧ w.cell? a4 = some v4 ∧ w.cell? a5 = some v5 ∧ w.cell? a6 = some v6 ∧ w.cell? a7 = some v7 ∧ w.cell? a8 = some v8) :
    w'.cell? a0 = some v0 ∧ w'.cell? a1 = some v1 ∧ w'.cell? a2 = some v2 ∧ w'.cell? a3 = some v3 ∧ w'.cell? a4 = some v4 ∧ w'.cell? a5 = some v5 ∧ w'.cell? a6 = some v6 ∧ w'.cell? a7 = some v7 ∧ w'.cell? a8 = some v8 := by
  obtain ⟨h0, h1, h2, h3, h4, h5, h6, h7, h8⟩ := h
  exact ⟨bel_cell q h0, bel_cell q h1, bel_cell q h2, bel_cell q h3, bel_cell q h4, bel_cell q h5, bel_cell q h6, bel_cell q h7, bel_cell q h8⟩
/-- What Reserve's closures see: the books behind pb, the rate behind qb. -/
structure ShAt (w0 w : World) (pb qb bb mb lb n lc : Nat) (sp : List Value) (cp lf : Nat → Rq) (k : Nat) (F : Nat → Option Rs) (rt : Rq) : Prop where
  p : Blk w pb 58 [.pointer (some ⟨bb, 0, none⟩)]
  q : Blk w qb 29 [.int .i64 rt.n, .int .i64 rt.d]
  b : BkB w0 w bb mb lb n lc sp cp lf k F
theorem ShAt.below {w0 w w' : World} {pb qb bb mb lb n lc : Nat} {sp : List Value} {cp lf : Nat → Rq} {k : Nat} {F : Nat → Option Rs} {rt : Rq} (h : ShAt w0 w pb qb bb mb lb n lc sp cp lf k F rt) (q : Below w.heap.size w w') : ShAt w0 w' pb qb bb mb lb n lc sp cp lf k F rt := ⟨h.p.bel q, h.q.bel q, h.b.below q⟩
def shV (pb qb : Nat) : Value := .func (.func 40) #[] #[.pointer (some ⟨pb, 0, none⟩), .pointer (some ⟨qb, 0, none⟩)]
set_option maxRecDepth 100000 in
set_option maxHeartbeats 2000000 in
theorem short_any (w0 w : World) (pb qb bb mb lb n lc : Nat) (sp : List Value) (cp lf : Nat → Rq) (k : Nat) (F : Nat → Option Rs) (rt : Rq) (h : ShAt w0 w pb qb bb mb lb n lc sp cp lf k F rt) (l : Nat) (hl : l < n) (hk : (lf l).ok = true) (hr : rt.ok = true) :
    Calls Try.prog 40 #[.int .i64 l, .pointer (some ⟨pb, 0, none⟩), .pointer (some ⟨qb, 0, none⟩)] w fun e w' => e = .returned (.bool (decide ((lf l).cmp rt < 0))) ∧ Below w.heap.size w w' := by
  have HB := Lib.hid (h.below (Qt.refl w).drew.bel)
  have CM := fun w => cmp_any (lf l) rt w hk hr
  obtain ⟨-, -, x2, x3, x4⟩ := h.b.cells hl
  generalize hx : lf l = x at *
  generalize x.cmp rt = cm at *
  obtain ⟨xn, xd⟩ := x
  obtain ⟨rn, rd⟩ := rt
  have p0 := h.p.cell (i := 0) rfl
  have q0 := h.q.cell (i := 0) rfl
  have q1 := h.q.cell (i := 1) rfl
  have b0 := h.b.b.cell (i := 0) rfl
  unfold rV at CM
  dsimp only at *
  replace CM := Lib.hid CM
  have hln : (l : Int) < (n : Int) := by omega
  have K0 := Lib.hid (And.intro p0 (And.intro b0 (And.intro x4 (And.intro x2 (And.intro x3 (And.intro q0 q1))))))
  clear h hx hk hr
  go_enter Try.func40, Try.ntmps40
  go_upto_region 1 with (fail)
  refine wp_region_allH (fun wx => wx.cell? ⟨pb, 0, none⟩ = some (.pointer (some ⟨bb, 0, none⟩)) ∧ wx.cell? ⟨bb, 0, none⟩ = some (.slice (some ⟨lb, 0, none⟩) n lc) ∧ wx.cell? ⟨lb, l * 5 + 4, none⟩ = some (.bool true) ∧ wx.cell? ⟨lb, l * 5 + 2, none⟩ = some (.int .i64 xn) ∧ wx.cell? ⟨lb, l * 5 + 3, none⟩ = some (.int .i64 xd) ∧ wx.cell? ⟨qb, 0, none⟩ = some (.int .i64 rn) ∧ wx.cell? ⟨qb, 1, none⟩ = some (.int .i64 rd)) 22 (by kernel_rfl) rfl ?_ (fun hHeld => ?_)
  · (exact K0.out)
  refine wpAnyH_takeG (i := 0) (v := ?_) rfl (by kernel_rfl) (by kernel_rfl) (by kernel_rfl) (fun _ _ _ h => h) rfl ?_ hHeld ?_
  rotate_left
  · intro w hSw
    try dsimp only at hSw
    go_simp
    all_goals with_reducible rfl
  try simp only [Act.put, List.setIfInBounds_toArray, List.set_cons_zero, List.set_cons_succ]
  refine wpAnyH_takeG (i := 1) (v := ?_) rfl (by kernel_rfl) (by kernel_rfl) (by kernel_rfl) (fun _ _ _ h => h) rfl ?_ hHeld ?_
  rotate_left
  · intro w hSw
    try dsimp only at hSw
    go_simp
    all_goals with_reducible rfl
  try simp only [Act.put, List.setIfInBounds_toArray, List.set_cons_zero, List.set_cons_succ]
  refine wpAnyH_takeG (i := 2) (v := ?_) rfl (by kernel_rfl) (by kernel_rfl) (by kernel_rfl) (fun _ _ _ h => h) rfl ?_ hHeld ?_
  rotate_left
  · intro w hSw
    try dsimp only at hSw
    go_simp
    all_goals with_reducible rfl
  try simp only [Act.put, List.setIfInBounds_toArray, List.set_cons_zero, List.set_cons_succ]
  refine wpAnyH_takeG (i := 3) (v := ?_) rfl (by kernel_rfl) (by kernel_rfl) (by kernel_rfl) (fun _ _ _ h => h) rfl ?_ hHeld ?_
  rotate_left
  · intro w hSw
    try dsimp only at hSw
    go_simp
    all_goals with_reducible rfl
  try simp only [Act.put, List.setIfInBounds_toArray, List.set_cons_zero, List.set_cons_succ]
  refine wpAnyH_takeG (i := 4) (v := ?_) rfl (by kernel_rfl) (by kernel_rfl) (by kernel_rfl) (fun _ _ _ h => h) rfl ?_ hHeld ?_
  rotate_left
  · intro w hSw
    try dsimp only at hSw
    go_simp
    all_goals with_reducible rfl
  try simp only [Act.put, List.setIfInBounds_toArray, List.set_cons_zero, List.set_cons_succ]
  refine wpAnyH_takeG (i := 5) (v := ?_) rfl (by kernel_rfl) (by kernel_rfl) (by kernel_rfl) (fun _ _ _ h => h) rfl ?_ hHeld ?_
  rotate_left
  · intro w hSw
    try dsimp only at hSw
    go_simp
    all_goals with_reducible rfl
  try simp only [Act.put, List.setIfInBounds_toArray, List.set_cons_zero, List.set_cons_succ]
  refine wpAnyH_takeG (i := 6) (v := ?_) rfl (by kernel_rfl) (by kernel_rfl) (by kernel_rfl) (fun _ _ _ h => h) rfl ?_ hHeld ?_
  rotate_left
  · intro w hSw
    try dsimp only at hSw
    go_simp
    all_goals with_reducible rfl
  try simp only [Act.put, List.setIfInBounds_toArray, List.set_cons_zero, List.set_cons_succ]
  refine wpAnyH_takeG (i := 7) (v := ?_) rfl (by kernel_rfl) (by kernel_rfl) (by kernel_rfl) (fun _ _ _ h => h) rfl ?_ hHeld ?_
  rotate_left
  · intro w hSw
    try dsimp only at hSw
    go_simp
    all_goals with_reducible rfl
  try simp only [Act.put, List.setIfInBounds_toArray, List.set_cons_zero, List.set_cons_succ]
  refine wpAnyH_takeG (i := 8) (v := ?_) rfl (by kernel_rfl) (by kernel_rfl) (by kernel_rfl) (fun _ _ _ h => h) rfl ?_ hHeld ?_
  rotate_left
  · intro w hSw
    try dsimp only at hSw
    go_simp
    all_goals with_reducible rfl
  try simp only [Act.put, List.setIfInBounds_toArray, List.set_cons_zero, List.set_cons_succ]
  refine wpAnyH_takeG (i := 9) (v := ?_) rfl (by kernel_rfl) (by kernel_rfl) (by kernel_rfl) (fun _ _ _ h => h) rfl ?_ hHeld ?_
  rotate_left
  · intro w hSw
    try dsimp only at hSw
    go_simp
    all_goals with_reducible rfl
  try simp only [Act.put, List.setIfInBounds_toArray, List.set_cons_zero, List.set_cons_succ]
  refine wpAnyH_takeG (i := 10) (v := ?_) rfl (by kernel_rfl) (by kernel_rfl) (by kernel_rfl) (fun _ _ _ h => h) rfl ?_ hHeld ?_
  rotate_left
  · intro w hSw
    try dsimp only at hSw
    go_simp
    all_goals with_reducible rfl
  try simp only [Act.put, List.setIfInBounds_toArray, List.set_cons_zero, List.set_cons_succ]
  refine wpAnyH_takeG (i := 11) (v := ?_) rfl (by kernel_rfl) (by kernel_rfl) (by kernel_rfl) (fun _ _ _ h => h) rfl ?_ hHeld ?_
  rotate_left
  · intro w hSw
    try dsimp only at hSw
    go_simp
    all_goals with_reducible rfl
  try simp only [Act.put, List.setIfInBounds_toArray, List.set_cons_zero, List.set_cons_succ]
  refine wpAnyH_takeG (i := 12) (v := ?_) rfl (by kernel_rfl) (by kernel_rfl) (by kernel_rfl) (fun _ _ _ h => h) rfl ?_ hHeld ?_
  rotate_left
  · intro w hSw
    try dsimp only at hSw
    go_simp
    all_goals with_reducible rfl
  try simp only [Act.put, List.setIfInBounds_toArray, List.set_cons_zero, List.set_cons_succ]
  refine wpAnyH_takeG (i := 13) (v := ?_) rfl (by kernel_rfl) (by kernel_rfl) (by kernel_rfl) (fun _ _ _ h => h) rfl ?_ hHeld ?_
  rotate_left
  · intro w hSw
    try dsimp only at hSw
    go_simp
    all_goals with_reducible rfl
  try simp only [Act.put, List.setIfInBounds_toArray, List.set_cons_zero, List.set_cons_succ]
  refine wpAnyH_takeG (i := 14) (v := ?_) rfl (by kernel_rfl) (by kernel_rfl) (by kernel_rfl) (fun _ _ _ h => h) rfl ?_ hHeld ?_
  rotate_left
  · intro w hSw
    try dsimp only at hSw
    go_simp
    all_goals with_reducible rfl
  try simp only [Act.put, List.setIfInBounds_toArray, List.set_cons_zero, List.set_cons_succ]
  refine wpAnyH_takeG (i := 15) (v := ?_) rfl (by kernel_rfl) (by kernel_rfl) (by kernel_rfl) (fun _ _ _ h => h) rfl ?_ hHeld ?_
  rotate_left
  · intro w hSw
    try dsimp only at hSw
    go_simp
    all_goals with_reducible rfl
  try simp only [Act.put, List.setIfInBounds_toArray, List.set_cons_zero, List.set_cons_succ]
  refine wpAnyH_takeG (i := 16) (v := ?_) rfl (by kernel_rfl) (by kernel_rfl) (by kernel_rfl) (fun _ _ _ h => h) rfl ?_ hHeld ?_
  rotate_left
  · intro w hSw
    try dsimp only at hSw
    go_simp
    all_goals with_reducible rfl
  try simp only [Act.put, List.setIfInBounds_toArray, List.set_cons_zero, List.set_cons_succ]
  refine wpAnyH_takeG (i := 17) (v := ?_) rfl (by kernel_rfl) (by kernel_rfl) (by kernel_rfl) (fun _ _ _ h => h) rfl ?_ hHeld ?_
  rotate_left
  · intro w hSw
    try dsimp only at hSw
    go_simp
    all_goals with_reducible rfl
  try simp only [Act.put, List.setIfInBounds_toArray, List.set_cons_zero, List.set_cons_succ]
  refine wpAnyH_step (i := 18) (by kernel_rfl) rfl (fun KK hK => ?_)
  ((go_simp; go_at_call 32; (with_reducible refine (CM.out _).mono ?_); rintro e w4 ⟨rfl, hb⟩))
  refine hK.out _ _ ?_ (fun hHeld => ?_)
  · (exact keep7 hb hHeld)
  clear hK KK
  try simp only [Act.put, List.setIfInBounds_toArray, List.set_cons_zero, List.set_cons_succ]
  refine wpAnyH_takeG (i := 19) (v := ?_) rfl (by kernel_rfl) (by kernel_rfl) (by kernel_rfl) (fun _ _ _ h => h) rfl ?_ hHeld ?_
  rotate_left
  · intro w hSw
    try dsimp only at hSw
    go_simp
    all_goals with_reducible rfl
  try simp only [Act.put, List.setIfInBounds_toArray, List.set_cons_zero, List.set_cons_succ]
  refine wpAnyH_takeG (i := 20) (v := ?_) rfl (by kernel_rfl) (by kernel_rfl) (by kernel_rfl) (fun _ _ _ h => h) rfl ?_ hHeld ?_
  rotate_left
  · intro w hSw
    try dsimp only at hSw
    go_simp
    all_goals with_reducible rfl
  try simp only [Act.put, List.setIfInBounds_toArray, List.set_cons_zero, List.set_cons_succ]
  refine wpAnyH_takeG (i := 21) (v := ?_) rfl (by kernel_rfl) (by kernel_rfl) (by kernel_rfl) (fun _ _ _ h => h) rfl ?_ hHeld ?_
  rotate_left
  · intro w hSw
    try dsimp only at hSw
    go_simp
    all_goals with_reducible rfl
  try simp only [Act.put, List.setIfInBounds_toArray, List.set_cons_zero, List.set_cons_succ]
  refine wpAnyH_done (by kernel_rfl) ?_ _
  have UB := Lib.hid ((Qt.refl w).drew.bel.trans hb)
  clear hHeld hb
  go_wp2_with fail
  go_ret
  exact ⟨rfl, UB.out⟩
def shB (lf : Nat → Rq) (rt : Rq) (x : Int) : Bool := decide ((lf x.toNat).cmp rt < 0)
def IxPost (w : World) (lf : Nat → Rq) (rt : Rq) (lk : List Int) (e : Ending) (w' : World) : Prop :=
  ∃ i : Int, e = .returned (.int .i64 i) ∧ ((i = -1 ∧ lk.all (fun x => !shB lf rt x) = true) ∨ ∃ (p : Nat) (x : Int), i = p ∧ lk[p]? = some x ∧ shB lf rt x = true) ∧ Below w.heap.size w w'
def IxRel (w : World) (lf : Nat → Rq) (rt : Rq) (lk : List Int) (n : Nat) (ix : Value) (wr : World) : Prop :=
  ∃ p : Nat, p ≤ n ∧ ix = .int .i64 p ∧ Hid ((lk.take p).all (fun x => !shB lf rt x) = true) ∧ Hid (Below w.heap.size w wr)
set_option maxRecDepth 100000 in
set_option maxHeartbeats 2000000 in
theorem idxs_any (w0 w : World) (pb qb bb mb lb n lc : Nat) (sp : List Value) (cp lf : Nat → Rq) (k : Nat) (F : Nat → Option Rs) (rt : Rq) (h : ShAt w0 w pb qb bb mb lb n lc sp cp lf k F rt) (hok : ∀ l < n, (lf l).ok = true) (hr : rt.ok = true)
    (a : Option Addr) (c : Nat) (lk : List Int) (hL : LnkOk w n a c lk) :
    Calls Try.prog 41 #[.slice a lk.length c, shV pb qb] w (IxPost w lf rt lk) := by
  have HH := Lib.hid h
  have HK := Lib.hid hok
  have HL := Lib.hid hL
  have hl1 := hL.l
  clear h hok hL
  unfold shV
  obtain ⟨L, hLL⟩ : ∃ L, lk.length = L := ⟨_, rfl⟩
  have HLL := Lib.hid hLL
  rw [hLL] at hl1 ⊢
  clear hLL
  go_enter Try.func41, Try.ntmps41
  go_wp2_with fail
  go_loopw [8] (fun ix wr => IxRel w lf rt lk L ix wr) (fun ix _ => L - (intOf ix).toNat)
  case atStart => exact ⟨0, Nat.zero_le _, rfl, rfl, Below.refl _ _⟩
  case round =>
    obtain ⟨p, hp, rfl, hall, T⟩ := hrel
    by_cases hpl : p < L
    · obtain ⟨x, ex, okx, fx⟩ := (HL.out.below T.out).s.get (k := p) (by rw [HLL.out]; exact hpl)
      obtain ⟨hx0, hx1⟩ := HL.out.r x (List.mem_of_getElem? ex.out)
      obtain ⟨xl, rfl⟩ := Int.eq_ofNat_of_zero_le hx0
      have SH := short_any w0 wr pb qb bb mb lb n lc sp cp lf k F rt (HH.out.below T.out) xl (by omega) (HK.out xl (by omega)) hr
      have hq0 : decide ((lf xl).cmp rt < 0) = shB lf rt (xl : Int) := by unfold shB; rw [Int.toNat_natCast]
      rw [hq0] at SH
      have hst := fun h => Lib.hid (all_step (p := fun x => !shB lf rt x) hall.out ex.out h)
      have EX := Lib.hid ex.out
      clear hq0 ex
      obtain ⟨q, hq⟩ : ∃ q, shB lf rt (xl : Int) = q := ⟨_, rfl⟩
      rw [hq] at SH
      replace SH := Lib.hid SH
      cases q with
      | true =>
        have HQ := Lib.hid hq
        clear hst hq
        go_wp2_with fail
        refine SH.out.mono ?_
        rintro e w1 ⟨rfl, hb⟩
        have B := Lib.hid (below_then T.out hb T.out.size)
        clear hb SH
        go_wp2_with fail
        go_ret
        exact ⟨p, rfl, .inr ⟨p, xl, rfl, EX.out, HQ.out⟩, B.out⟩
      | false =>
        have hst2 := hst (by rw [hq]; rfl)
        clear hst hq
        go_wp2_with fail
        refine SH.out.mono ?_
        rintro e w1 ⟨rfl, hb⟩
        have B := Lib.hid (below_then T.out hb T.out.size)
        clear hb SH
        go_wp2_with fail
        go_roundw
        case rel => exact ⟨p + 1, by omega, by go_num, hst2, B⟩
        case measure => simp [intOf]; omega
    · obtain rfl : L = p := by omega
      have h2 := hall.out
      rw [List.take_of_length_le (by rw [HLL.out]; omega)] at h2
      have H2 := Lib.hid h2
      clear h2 hall
      go_wp2_with fail
      go_ret
      exact ⟨-1, rfl, .inl ⟨rfl, H2.out⟩, T.out⟩
/-- What charge sees, besides: the links behind kb, the row for what is left behind fb, in block gb. -/
structure ChAt (w0 w : World) (pb kb qb fb gb bb mb lb n lc : Nat) (sp : List Value) (cp lf : Nat → Rq) (k : Nat) (F : Nat → Option Rs) (rt : Rq) (a : Option Addr) (L c : Nat) (R : Nat → Rq) : Prop where
  s : ShAt w0 w pb qb bb mb lb n lc sp cp lf k F rt
  k : Blk w kb 33 [.slice a L c]
  f : Blk w fb 22 [.slice (some ⟨gb, 0, none⟩) L L]
  g : Blk w gb 29 (flC rC ((List.range L).map R))
theorem ChAt.below {w0 w w' : World} {pb kb qb fb gb bb mb lb n lc : Nat} {sp : List Value} {cp lf : Nat → Rq} {k : Nat} {F : Nat → Option Rs} {rt : Rq} {a : Option Addr} {L c : Nat} {R : Nat → Rq}
    (h : ChAt w0 w pb kb qb fb gb bb mb lb n lc sp cp lf k F rt a L c R) (q : Below w.heap.size w w') : ChAt w0 w' pb kb qb fb gb bb mb lb n lc sp cp lf k F rt a L c R := ⟨h.s.below q, h.k.bel q, h.f.bel q, h.g.bel q⟩
def ChPost (w : World) (gb L i : Nat) (R : Nat → Rq) (U : Nat) (z : Int) (e : Ending) (w' : World) : Prop :=
  ∃ v : Rq, e = .returned (.int .i64 0) ∧ Rp1 U v z ∧ Blk w' gb 29 (flC rC ((List.range L).map (updQ R i v))) ∧ Upd (fun j => j = gb) w w'
set_option maxRecDepth 100000 in
set_option maxHeartbeats 4000000 in
theorem charge_any (w0 w : World) (pb kb qb fb gb bb mb lb n lc : Nat) (sp : List Value) (cp lf : Nat → Rq) (k : Nat) (F : Nat → Option Rs) (rt : Rq) (a : Option Addr) (L c : Nat) (R : Nat → Rq) (h : ChAt w0 w pb kb qb fb gb bb mb lb n lc sp cp lf k F rt a L c R)
    (lk : List Int) (hs : SlI w a lk) (i l : Nat) (hi : lk[i]? = some (l : Int)) (hiL : i < L) (hl : l < n) (x z : Int) (hx : Rp1 uW (lf l) x) (hx0 : 0 ≤ x ∧ x ≤ uW) (hz : Rp1 uW rt z) (hz0 : 0 ≤ z ∧ z ≤ uW) :
    Calls Try.prog 42 #[.int .i64 i, .pointer (some ⟨pb, 0, none⟩), .pointer (some ⟨kb, 0, none⟩), .pointer (some ⟨qb, 0, none⟩), .pointer (some ⟨fb, 0, none⟩)] w (ChPost w gb L i R uW (x - z)) := by
  have hW : uW = 31104000 := rfl
  have SB := fun w => sub_any (lf l) rt w (hx.sm uW_pos uW_le (by omega)) (hz.sm uW_pos uW_le (by omega))
  have hd := Lib.hid (hx.sub uW_pos hz)
  have hzero := hz.rp.n_zero uW_pos
  obtain ⟨y0, y1, y2, y3, y4⟩ := h.s.b.cells hl
  have HH := Lib.hid h
  have HX := Lib.hid hx
  have p0 := h.s.p.cell (i := 0) rfl
  have k0 := h.k.cell (i := 0) rfl
  have q0 := h.s.q.cell (i := 0) rfl
  have q1 := h.s.q.cell (i := 1) rfl
  have b0 := h.s.b.b.cell (i := 0) rfl
  obtain ⟨oka, s0⟩ := hs i _ hi
  clear h hs hi hz
  generalize (lf l).add ⟨-rt.n, rt.d⟩ = dd at *
  generalize lf l = lfl at *
  generalize cp l = cpl at *
  obtain ⟨ln, ld⟩ := lfl
  obtain ⟨cn, cd⟩ := cpl
  obtain ⟨rn, rd⟩ := rt
  obtain ⟨d1, d2⟩ := dd
  unfold rV at SB
  dsimp only at *
  replace SB := Lib.hid SB
  have hln : (l : Int) < (n : Int) := by omega
  go_enter Try.func42, Try.ntmps42
  go_upto_region 1 with (fail)
  have C0 := Lib.hid (HH.out.below (Qt.refl w).drew.bel)
  have zw : (w.drew).heap.size = w.heap.size := rfl
  refine wp_region_lastH (fun wx => wx.cell? ⟨pb, 0, none⟩ = some (.pointer (some ⟨bb, 0, none⟩)) ∧ wx.cell? ⟨bb, 0, none⟩ = some (.slice (some ⟨lb, 0, none⟩) n lc) ∧ wx.cell? ⟨kb, 0, none⟩ = some (.slice a L c) ∧ wx.cell? (adr a i) = some (.int .i64 l) ∧ wx.cell? ⟨lb, l * 5, none⟩ = some (.int .i64 cn) ∧ wx.cell? ⟨lb, l * 5 + 1, none⟩ = some (.int .i64 cd) ∧ wx.cell? ⟨lb, l * 5 + 2, none⟩ = some (.int .i64 ln) ∧ wx.cell? ⟨lb, l * 5 + 3, none⟩ = some (.int .i64 ld) ∧ wx.cell? ⟨lb, l * 5 + 4, none⟩ = some (.bool true)) 11 12 (by kernel_rfl) (by kernel_rfl) rfl rfl ?_ (fun hHeld => ?_)
  · (exact ⟨p0, b0, k0, s0, y0, y1, y2, y3, y4⟩)
  simp only [nopFor, List.set_cons_succ, List.set_cons_zero]
  refine wpAnyH_takeL (i := 0) (v := ?_) rfl (by kernel_rfl) (by kernel_rfl) (by kernel_rfl) (fun _ _ _ h => h) rfl ?_ hHeld ?_
  rotate_left
  · intro w hSw
    try dsimp only at hSw
    go_simp
    all_goals with_reducible rfl
  try simp only [Act.put, List.setIfInBounds_toArray, List.set_cons_zero, List.set_cons_succ]
  refine wpAnyH_takeL (i := 1) (v := ?_) rfl (by kernel_rfl) (by kernel_rfl) (by kernel_rfl) (fun _ _ _ h => h) rfl ?_ hHeld ?_
  rotate_left
  · intro w hSw
    try dsimp only at hSw
    go_simp
    all_goals with_reducible rfl
  try simp only [Act.put, List.setIfInBounds_toArray, List.set_cons_zero, List.set_cons_succ]
  refine wpAnyH_takeL (i := 2) (v := ?_) rfl (by kernel_rfl) (by kernel_rfl) (by kernel_rfl) (fun _ _ _ h => h) rfl ?_ hHeld ?_
  rotate_left
  · intro w hSw
    try dsimp only at hSw
    go_simp
    all_goals with_reducible rfl
  try simp only [Act.put, List.setIfInBounds_toArray, List.set_cons_zero, List.set_cons_succ]
  refine wpAnyH_takeL (i := 3) (v := ?_) rfl (by kernel_rfl) (by kernel_rfl) (by kernel_rfl) (fun _ _ _ h => h) rfl ?_ hHeld ?_
  rotate_left
  · intro w hSw
    try dsimp only at hSw
    go_simp
    all_goals with_reducible rfl
  try simp only [Act.put, List.setIfInBounds_toArray, List.set_cons_zero, List.set_cons_succ]
  refine wpAnyH_takeL (i := 4) (v := ?_) rfl (by kernel_rfl) (by kernel_rfl) (by kernel_rfl) (fun _ _ _ h => h) rfl ?_ hHeld ?_
  rotate_left
  · intro w hSw
    try dsimp only at hSw
    go_simp
    all_goals with_reducible rfl
  try simp only [Act.put, List.setIfInBounds_toArray, List.set_cons_zero, List.set_cons_succ]
  refine wpAnyH_takeL (i := 5) (v := ?_) rfl (by kernel_rfl) (by kernel_rfl) (by kernel_rfl) (fun _ _ _ h => h) rfl ?_ hHeld ?_
  rotate_left
  · intro w hSw
    try dsimp only at hSw
    go_simp
    all_goals with_reducible rfl
  try simp only [Act.put, List.setIfInBounds_toArray, List.set_cons_zero, List.set_cons_succ]
  refine wpAnyH_takeL (i := 6) (v := ?_) rfl (by kernel_rfl) (by kernel_rfl) (by kernel_rfl) (fun _ _ _ h => h) rfl ?_ hHeld ?_
  rotate_left
  · intro w hSw
    try dsimp only at hSw
    go_simp
    all_goals with_reducible rfl
  try simp only [Act.put, List.setIfInBounds_toArray, List.set_cons_zero, List.set_cons_succ]
  refine wpAnyH_takeL (i := 7) (v := ?_) rfl (by kernel_rfl) (by kernel_rfl) (by kernel_rfl) (fun _ _ _ h => h) rfl ?_ hHeld ?_
  rotate_left
  · intro w hSw
    try dsimp only at hSw
    go_simp
    all_goals with_reducible rfl
  try simp only [Act.put, List.setIfInBounds_toArray, List.set_cons_zero, List.set_cons_succ]
  refine wpAnyH_takeL (i := 8) (v := ?_) rfl (by kernel_rfl) (by kernel_rfl) (by kernel_rfl) (fun _ _ _ h => h) rfl ?_ hHeld ?_
  rotate_left
  · intro w hSw
    try dsimp only at hSw
    go_simp
    all_goals with_reducible rfl
  try simp only [Act.put, List.setIfInBounds_toArray, List.set_cons_zero, List.set_cons_succ]
  refine wpAnyH_takeL (i := 9) (v := ?_) rfl (by kernel_rfl) (by kernel_rfl) (by kernel_rfl) (fun _ _ _ h => h) rfl ?_ hHeld ?_
  rotate_left
  · intro w hSw
    try dsimp only at hSw
    go_simp
    all_goals with_reducible rfl
  try simp only [Act.put, List.setIfInBounds_toArray, List.set_cons_zero, List.set_cons_succ]
  refine wpAnyH_step (i := 10) (by kernel_rfl) rfl (fun KK hK => ?_)
  (go_simp)
  refine hK.out _ _ ?_ (fun hHeld => ?_)
  · (exact keep9 (alloc_belQ _ _) hHeld)
  clear hK KK
  try simp only [Act.put, List.setIfInBounds_toArray, List.set_cons_zero, List.set_cons_succ]
  refine wpAnyH_takeL (i := 11) (v := ?_) rfl (by kernel_rfl) (by kernel_rfl) (by kernel_rfl) (fun _ _ _ h => h) rfl ?_ hHeld ?_
  rotate_left
  · intro w hSw
    try dsimp only at hSw
    go_simp
    all_goals with_reducible rfl
  try simp only [Act.put, List.setIfInBounds_toArray, List.set_cons_zero, List.set_cons_succ]
  refine wpAnyH_done (by kernel_rfl) ?_ _
  rw [LastQ_normal]
  clear hHeld p0 b0 k0 s0 y0 y1 y2 y3 y4 q0 q1 oka
  go_upto_region 2 with (fail)
  have B7 := Lib.hid (Blk.drew (Blk.new w 89 [.int .i64 cn, .int .i64 cd, .int .i64 ln, .int .i64 ld, .bool true]))
  have BW := Lib.hid ((alloc_belQ w (.cells #[.int .i64 cn, .int .i64 cd, .int .i64 ln, .int .i64 ld, .bool true] 89)).trans (Qt.below (Qt.refl _).drew _))
  have C7 := Lib.hid (HH.out.below BW.out)
  have zW : w.heap.size < (w.alloc (.cells #[.int .i64 cn, .int .i64 cd, .int .i64 ln, .int .i64 ld, .bool true] 89)).drew.heap.size := B7.out.lt
  generalize (w.alloc (.cells #[.int .i64 cn, .int .i64 cd, .int .i64 ln, .int .i64 ld, .bool true] 89)).drew = W at *
  clear C0 zw
  have q0 := C7.out.s.q.cell (i := 0) rfl
  have q1 := C7.out.s.q.cell (i := 1) rfl
  have f0 := C7.out.f.cell (i := 0) rfl
  have t2 := B7.out.cell (i := 2) rfl
  have t3 := B7.out.cell (i := 3) rfl
  have t4 := B7.out.cell (i := 4) rfl
  have gf := C7.out.g.free
  have gz := C7.out.g.lt
  have ge : ((List.range L).map R)[i]? = some (R i) := by simp [hiL]
  have g0 : W.cell? ⟨gb, i * 2, none⟩ = some (.int .i64 (R i).n) := C7.out.g.cell (i := i * 2 + 0) (by rw [flC_get rC_len ge 0 (by omega)]; rfl)
  have g1 : W.cell? ⟨gb, i * 2 + 1, none⟩ = some (.int .i64 (R i).d) := C7.out.g.cell (by rw [flC_get rC_len ge 1 (by omega)]; rfl)
  have gw := HH.out.g.lt
  clear ge
  by_cases h0 : rn = 0
  · have hz0 : z = 0 := hzero.1 h0
    subst h0
    have k0 : ((0 : Int) == 0) = true := rfl
    have HV : Hid (Rp1 uW ⟨ln, ld⟩ (x - z)) := by rw [hz0, Int.sub_zero]; exact HX
    clear hzero hz0
    go_wp2_with fail
    go_ret
    exact ⟨⟨ln, ld⟩, rfl, HV.out, by rw [← flC_set R hiL]; exact (C7.out.g.set _ _).set _ _, ((Upd.of_below (S := fun j => j = gb) BW.out).setCell _ _ (fun _ => rfl)).setCell _ _ (fun _ => rfl)⟩
  · have k0 : (rn == 0) = false := by simp [h0]
    clear hzero
    go_wp2_with fail
    refine (SB.out _).mono ?_
    rintro e w1 ⟨rfl, hb⟩
    have C1 := Lib.hid (C7.out.below hb)
    have U1 := Lib.hid (Upd.then (Upd.of_below (S := fun j => j = gb) BW.out) (Upd.of_below (S := fun j => j = gb) hb) (fun _ _ h => h))
    have f1 := C1.out.f.cell (i := 0) rfl
    have gf1 := C1.out.g.free
    have fz1 := C1.out.f.lt
    have gz1 := C1.out.g.lt
    have ge : ((List.range L).map R)[i]? = some (R i) := by simp [hiL]
    have j0 : w1.cell? ⟨gb, i * 2, none⟩ = some (.int .i64 (R i).n) := C1.out.g.cell (i := i * 2 + 0) (by rw [flC_get rC_len ge 0 (by omega)]; rfl)
    have j1 : w1.cell? ⟨gb, i * 2 + 1, none⟩ = some (.int .i64 (R i).d) := C1.out.g.cell (by rw [flC_get rC_len ge 1 (by omega)]; rfl)
    have hsz := hb.size
    clear hb ge q0 q1 f0 t2 t3 t4 gf g0 g1 SB
    go_wp2_with fail
    go_ret
    exact ⟨⟨d1, d2⟩, rfl, hd.out, by rw [← flC_set R hiL]; exact ((C1.out.g.set _ _).set _ _).alloc _, ((U1.out.setCell _ _ (fun _ => rfl)).setCell _ _ (fun _ => rfl)).alloc _⟩
end Go.Proofs.Ytbdaehcngmhhcaa
