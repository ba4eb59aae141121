/-
  switchbox.Box: its model and its memory.
-/
import Derived.Test.YtkooihniieepcaaSwM
import Derived.Test.YtkooihniieepcaaSwNew
import Derived.Test.YtkooihniieepcaaSwTk
import Derived.Test.YtkooihniieepcaaBarMatch
namespace Go.Proofs.Ytkooihniieepcaa
open Go.RowKit
set_option linter.unusedVariables false

/-- A frame (without data). -/
structure Fr where
  id : Int
  frm : Int
  dst : Int
  cls : Int
  ep : Int
  deriving Inhabited
def frC (f : Fr) : List Value := [.int .i64 f.id, .int .i64 f.frm, .int .i64 f.dst, .int .i64 f.cls, .int .i64 f.ep, .slice none 0 0]
def frV (f : Fr) : Value := .agg #[.int .i64 f.id, .int .i64 f.frm, .int .i64 f.dst, .int .i64 f.cls, .int .i64 f.ep, .slice none 0 0]
theorem frC_len (f : Fr) : (frC f).length = 6 := rfl
theorem frC_one (f : Fr) : ∀ u ∈ frC f, u.oneCell' = true := by
  intro u hu
  simp only [frC, List.mem_cons, List.not_mem_nil, or_false] at hu
  rcases hu with rfl | rfl | rfl | rfl | rfl | rfl <;> rfl
theorem Try.infoFr : (Try.prog.info? 39).map (fun i => (i.zero, i.size, i.bytes)) = some (some (.agg #[.int .i64 0, .int .i64 0, .int .i64 0, .int .i64 0, .int .i64 0, .slice none 0 0]), 6, 64) := by kernel_rfl
/-- A move. -/
structure Mv where
  p : Int
  c : Int
  o : Int
  deriving Inhabited
def mvC (m : Mv) : List Value := [.int .i64 m.p, .int .i64 m.c, .int .i64 m.o]
theorem mvC_len (f : Mv) : (mvC f).length = 3 := rfl
theorem mvC_one (f : Mv) : ∀ u ∈ mvC f, u.oneCell' = true := by
  intro u hu
  simp only [mvC, List.mem_cons, List.not_mem_nil, or_false] at hu
  rcases hu with rfl | rfl | rfl <;> rfl
theorem Try.infoMv : (Try.prog.info? 34).map (fun i => (i.zero, i.size, i.bytes)) = some (some (.agg #[.int .i64 0, .int .i64 0, .int .i64 0]), 3, 24) := by kernel_rfl

inductive Rl where
  | box | bar
  | qr (p : Nat) | gr (p : Nat) | tr (p : Nat)
  | gv (p c : Nat) | gc (p c : Nat) | tk (p c : Nat) | tc (p c : Nat) | qf (p c : Nat)
  deriving DecidableEq
/-- Where the parts of a box lie. -/
structure Loc where
  bb : Nat
  xb : Nat
  qr : Nat → Nat
  gr : Nat → Value
  tr : Nat → Value
  gv : Nat → Nat → Nat
  gc : Nat → Nat → Nat
  tk : Nat → Nat → Nat
  tc : Nat → Nat → Nat
  q : Nat → Nat → Value
/-- What a box holds. -/
structure Md where
  q : Nat → Nat → List Fr
  gv : Nat → Nat → I3
  tk : Nat → Nat → I2
  ptr : Nat → Nat
  g : Nat → Nat
  a : Nat → Nat
def upd2 {α : Type} (f : Nat → Nat → α) (p c : Nat) (v : α) : Nat → Nat → α := fun i j => if i = p ∧ j = c then v else f i j
theorem upd2_same {α : Type} (f : Nat → Nat → α) (p c : Nat) (v : α) : upd2 f p c v p c = v := by unfold upd2; rw [if_pos ⟨rfl, rfl⟩]
theorem upd2_ne {α : Type} (f : Nat → Nat → α) {p c i j : Nat} (v : α) (h : ¬ (i = p ∧ j = c)) : upd2 f p c v i j = f i j := by unfold upd2; rw [if_neg h]
/-- The 36 cells of the box: ports, classes, the queues, givers, takers of the ports, the pointers, the crossbar, the overflows. -/
def boxF (P K : Nat) (L : Loc) (ptr : Nat → Nat) (j : Nat) : Value :=
  if j = 0 then .int .i64 P else if j = 1 then .int .i64 K
  else if j < 10 then (if j - 2 < P then .slice (some ⟨L.qr (j - 2), 0, none⟩) K K else .slice none 0 0)
  else if j < 18 then (if j - 10 < P then L.gr (j - 10) else .slice none 0 0)
  else if j < 26 then (if j - 18 < P then L.tr (j - 18) else .slice none 0 0)
  else if j < 34 then .int .i64 (ptr (j - 26))
  else if j = 34 then .pointer (some ⟨L.xb, 0, none⟩) else .int .i64 0
def ptrF (b : Nat → Nat) (c : Nat) : Value := .pointer (some ⟨b c, 0, none⟩)
def conf (P K : Nat) (L : Loc) (M : Md) : Rl → Option Pc
  | .box => some (.blk L.bb 73 ((List.range 36).map (boxF P K L M.ptr)))
  | .bar => some (.blk L.xb 95 ((List.range 17).map (barF P M.g M.a)))
  | .qr p => if p < P then some (.blk (L.qr p) 30 ((List.range K).map (L.q p))) else none
  | .gr p => if p < P then some (.row (L.gr p) 74 1 K ((List.range K).map (ptrF (L.gv p)))) else none
  | .tr p => if p < P then some (.row (L.tr p) 77 1 K ((List.range K).map (ptrF (L.tk p)))) else none
  | .gv p c => if p < P ∧ c < K then some (.blk (L.gv p c) 98 [.slice (some ⟨L.gc p c, 0, none⟩) 1 1]) else none
  | .gc p c => if p < P ∧ c < K then some (.blk (L.gc p c) 100 (cs3 [M.gv p c])) else none
  | .tk p c => if p < P ∧ c < K then some (.blk (L.tk p c) 103 [.slice (some ⟨L.tc p c, 0, none⟩) 1 1]) else none
  | .tc p c => if p < P ∧ c < K then some (.blk (L.tc p c) 110 (cs2 [M.tk p c])) else none
  | .qf p c => if p < P ∧ c < K then some (.row (L.q p c) 39 6 (M.q p c).length (flC frC (M.q p c))) else none
/-- What holds of the numbers of a box. -/
structure MdOk (P K : Nat) (M : Md) : Prop where
  p1 : 1 ≤ P
  p8 : P ≤ 8
  k1 : 1 ≤ K
  k8 : K ≤ 8
  gv : ∀ p < P, ∀ c < K, GOk (M.gv p c)
  gb : ∀ p < P, ∀ c < K, (M.gv p c).b ≤ 1000
  tk : ∀ p < P, ∀ c < K, TOk (M.tk p c)
  ql : ∀ p < P, ∀ c < K, ((M.q p c).length : Int) = (M.gv p c).b - (M.gv p c).c
  qm : ∀ p < P, ∀ c < K, (M.q p c).length ≤ 64
  ptr : ∀ p < P, M.ptr p < K
  g : ∀ k < P, M.g k < P
  a : ∀ i < P, M.a i < P
structure BoxAt (w : World) (base P K : Nat) (L : Loc) (M : Md) : Prop where
  st : St w base (conf P K L M)
  ok : MdOk P K M
section
variable {w w' : World} {base P K p c : Nat} {L : Loc} {M : Md}
def boxS (P K : Nat) (L : Loc) (M : Md) : Nat → Prop := ftC (conf P K L M)
theorem BoxAt.upd {S : Nat → Prop} (h : BoxAt w base P K L M) (u : Upd S w w') (hs : ∀ k, boxS P K L M k → ¬ S k) : BoxAt w' base P K L M := ⟨h.st.upd u hs, h.ok⟩
theorem BoxAt.below (h : BoxAt w base P K L M) (q : Below w.heap.size w w') : BoxAt w' base P K L M := ⟨h.st.below q, h.ok⟩
theorem BoxAt.lt (h : BoxAt w base P K L M) {k : Nat} (hk : boxS P K L M k) : base ≤ k ∧ k < w.heap.size := h.st.lt hk
theorem BoxAt.hbox (h : BoxAt w base P K L M) : Fun w L.bb 73 36 (boxF P K L M.ptr) := h.st.blk (r := .box) rfl
theorem BoxAt.cP (h : BoxAt w base P K L M) : w.cell? ⟨L.bb, 0, none⟩ = some (.int .i64 P) := h.hbox.cell (j := 0) (by omega)
theorem BoxAt.cK (h : BoxAt w base P K L M) : w.cell? ⟨L.bb, 1, none⟩ = some (.int .i64 K) := h.hbox.cell (j := 1) (by omega)
theorem BoxAt.cX (h : BoxAt w base P K L M) : w.cell? ⟨L.bb, 34, none⟩ = some (.pointer (some ⟨L.xb, 0, none⟩)) := h.hbox.cell (j := 34) (by omega)
theorem BoxAt.cO (h : BoxAt w base P K L M) : w.cell? ⟨L.bb, 35, none⟩ = some (.int .i64 0) := h.hbox.cell (j := 35) (by omega)
theorem BoxAt.cQ (h : BoxAt w base P K L M) (hp : p < P) : w.cell? ⟨L.bb, 2 + p, none⟩ = some (.slice (some ⟨L.qr p, 0, none⟩) K K) := by
  have h8 := h.ok.p8
  rw [h.hbox.cell (j := 2 + p) (by omega)]
  unfold boxF
  rw [if_neg (by omega), if_neg (by omega), if_pos (by omega), Nat.add_sub_cancel_left, if_pos hp]
theorem BoxAt.cG (h : BoxAt w base P K L M) (hp : p < P) : w.cell? ⟨L.bb, 10 + p, none⟩ = some (L.gr p) := by
  have h8 := h.ok.p8
  rw [h.hbox.cell (j := 10 + p) (by omega)]
  unfold boxF
  rw [if_neg (by omega), if_neg (by omega), if_neg (by omega), if_pos (by omega), Nat.add_sub_cancel_left, if_pos hp]
theorem BoxAt.cT (h : BoxAt w base P K L M) (hp : p < P) : w.cell? ⟨L.bb, 18 + p, none⟩ = some (L.tr p) := by
  have h8 := h.ok.p8
  rw [h.hbox.cell (j := 18 + p) (by omega)]
  unfold boxF
  rw [if_neg (by omega), if_neg (by omega), if_neg (by omega), if_neg (by omega), if_pos (by omega), Nat.add_sub_cancel_left, if_pos hp]
theorem BoxAt.cI (h : BoxAt w base P K L M) (hp : p < 8) : w.cell? ⟨L.bb, 26 + p, none⟩ = some (.int .i64 (M.ptr p)) := by
  rw [h.hbox.cell (j := 26 + p) (by omega)]
  unfold boxF
  rw [if_neg (by omega), if_neg (by omega), if_neg (by omega), if_neg (by omega), if_neg (by omega), if_pos (by omega), Nat.add_sub_cancel_left]
theorem BoxAt.rQ (h : BoxAt w base P K L M) (hp : p < P) : Fun w (L.qr p) 30 K (L.q p) := h.st.blk (r := .qr p) (if_pos hp)
/-- The way to a giver. -/
theorem BoxAt.wG (h : BoxAt w base P K L M) (hp : p < P) (hc : c < K) : ∃ g m, w.cell? ⟨L.bb, 10 + p, none⟩ = some (.slice (some ⟨g, 0, none⟩) K m) ∧ w.cell? ⟨g, c, none⟩ = some (.pointer (some ⟨L.gv p c, 0, none⟩)) := by
  have ho := h.st.row (r := .gr p) (if_pos hp)
  obtain ⟨a, m, e, _⟩ := own_shape ho
  have hk : List.range K ≠ [] := by intro e; have := congrArg List.length e; simp at this; omega
  rw [e] at ho
  obtain ⟨g, sp, rfl, _, hb, _⟩ := own_blk ho hk
  refine ⟨g, m, by rw [h.cG hp, e], hb.cell ?_⟩
  rw [List.getElem?_append_left (by simpa using hc)]
  exact fun_get _ hc
theorem BoxAt.wT (h : BoxAt w base P K L M) (hp : p < P) (hc : c < K) : ∃ g m, w.cell? ⟨L.bb, 18 + p, none⟩ = some (.slice (some ⟨g, 0, none⟩) K m) ∧ w.cell? ⟨g, c, none⟩ = some (.pointer (some ⟨L.tk p c, 0, none⟩)) := by
  have ho := h.st.row (r := .tr p) (if_pos hp)
  obtain ⟨a, m, e, _⟩ := own_shape ho
  have hk : List.range K ≠ [] := by intro e; have := congrArg List.length e; simp at this; omega
  rw [e] at ho
  obtain ⟨g, sp, rfl, _, hb, _⟩ := own_blk ho hk
  refine ⟨g, m, by rw [h.cT hp, e], hb.cell ?_⟩
  rw [List.getElem?_append_left (by simpa using hc)]
  exact fun_get _ hc
theorem BoxAt.giver (h : BoxAt w base P K L M) (hp : p < P) (hc : c < K) : GAt w base (L.gv p c) (L.gc p c) [M.gv p c] := by
  have h1 := h.st.at_ (.gv p c) _ (if_pos ⟨hp, hc⟩)
  have h2 := h.st.at_ (.gc p c) _ (if_pos ⟨hp, hc⟩)
  refine ⟨h1.1, h2.1, fun e => ?_, h1.2, h2.2⟩
  have := h.st.sep (.gv p c) (.gc p c) _ _ (L.gv p c) (if_pos ⟨hp, hc⟩) (if_pos ⟨hp, hc⟩) rfl (by rw [e]; rfl)
  cases this
theorem BoxAt.taker (h : BoxAt w base P K L M) (hp : p < P) (hc : c < K) : TAt w base (L.tk p c) (L.tc p c) [M.tk p c] := by
  have h1 := h.st.at_ (.tk p c) _ (if_pos ⟨hp, hc⟩)
  have h2 := h.st.at_ (.tc p c) _ (if_pos ⟨hp, hc⟩)
  refine ⟨h1.1, h2.1, fun e => ?_, h1.2, h2.2⟩
  have := h.st.sep (.tk p c) (.tc p c) _ _ (L.tk p c) (if_pos ⟨hp, hc⟩) (if_pos ⟨hp, hc⟩) rfl (by rw [e]; rfl)
  cases this
theorem BoxAt.queue (h : BoxAt w base P K L M) (hp : p < P) (hc : c < K) : w.ownsRow base 39 6 (L.q p c) (M.q p c).length (flC frC (M.q p c)) := h.st.row (r := .qf p c) (if_pos ⟨hp, hc⟩)
theorem BoxAt.barr (h : BoxAt w base P K L M) : Go.Proofs.Ytkooihniieepcaa.BarAt w L.xb P M.g M.a := h.st.blk (r := .bar) rfl
end
end Go.Proofs.Ytkooihniieepcaa
