/-
  What waterfill's level keeps in its loops; what it returns.
-/
import Derived.Test.YtbdaehcngmhhcaaLvA
namespace Go.Proofs.Ytbdaehcngmhhcaa
open Go.RowKit
set_option linter.unusedVariables false

theorem LvAt.start (w : World) (n : Nat) : LvAt w (((((w.alloc (.cells #[.int .i64 0, .int .i64 0, .slice none 0 0] 57)).alloc (.cells #[.int .i64 0, .int .i64 0] 29)).alloc (.cells #[.bool false] 4)).alloc
    (.cells (flC rC ((List.range n).map fun _ => (⟨0, 0⟩ : Rq))).toArray 29)).alloc (.cells ((List.range n).map fun _ => Value.bool false).toArray 4)) n (fun _ => ⟨0, 0⟩) (fun _ => false) false ⟨0, 0⟩ := by
  have key : ∀ (w : World) (xs : List Value) (T : TypeId) (m : Nat), w.heap.size = m → Blk (w.alloc (.cells xs.toArray T)) m T xs := fun w xs T m e => by subst e; exact Blk.new w T xs
  refine ⟨?_, ?_, ?_, ?_, ?_, ?_⟩
  · exact ((((Blk.new w _ _).alloc _).alloc _).alloc _).alloc _
  · exact (((key _ _ _ _ (by simp)).alloc _).alloc _).alloc _
  · exact ((key _ _ _ _ (by simp)).alloc _).alloc _
  · exact (key _ _ _ _ (by simp)).alloc _
  · exact key _ _ _ _ (by simp)
  · exact (((((Below.refl _ _).alloc (Nat.le_refl _) _).alloc (by simp) _).alloc (by simp; omega) _).alloc (by simp; omega) _).alloc (by simp; omega) _
def L1Rel (w : World) (N : Nt) (fz : Nat → Bool) (q : Nat → Int) (n : Nat) (ix : Value) (wr : World) : Prop :=
  ∃ (p : Nat) (ql : Nat → Rq) (us : Nat → Bool) (fnd : Bool) (least : Rq) (k : Int), p ≤ n ∧ ix = .int .i64 p ∧ Hid (LvAt w wr n ql us fnd least) ∧
    Hid (∀ l < n, us l = (decide (l < p) && decide (0 < opF N fz l)) ∧ (us l = true → Rp1 uU (ql l) (q l))) ∧ Hid (Lst (fun x => ∃ l < p, 0 < opF N fz l ∧ x = q l) fnd least k)
/-- What was considered after the links and the first p flows. -/
def Sv (N : Nt) (fz : Nat → Bool) (q : Nat → Int) (n p : Nat) (x : Int) : Prop := (∃ l < n, 0 < opF N fz l ∧ x = q l) ∨ (∃ i < p, fz i = false ∧ N.bd i = true ∧ x = N.dm i)
theorem Sv.skip {N : Nt} {fz : Nat → Bool} {q : Nat → Int} {n p : Nat} (h : ¬ (fz p = false ∧ N.bd p = true)) (x : Int) : Sv N fz q n p x ↔ Sv N fz q n (p + 1) x := by
  unfold Sv
  constructor
  · rintro (h1 | ⟨i, h1, h2, h3⟩)
    · exact .inl h1
    · exact .inr ⟨i, by omega, h2, h3⟩
  · rintro (h1 | ⟨i, h1, h2, h3, h4⟩)
    · exact .inl h1
    · by_cases e : i = p
      · subst e; exact absurd ⟨h2, h3⟩ h
      · exact .inr ⟨i, by omega, h2, h3, h4⟩
theorem Sv.take {N : Nt} {fz : Nat → Bool} {q : Nat → Int} {n p : Nat} (h : fz p = false ∧ N.bd p = true) (x : Int) : (Sv N fz q n p x ∨ x = N.dm p) ↔ Sv N fz q n (p + 1) x := by
  unfold Sv
  constructor
  · rintro ((h1 | ⟨i, h1, h2, h3⟩) | h1)
    · exact .inl h1
    · exact .inr ⟨i, by omega, h2, h3⟩
    · exact .inr ⟨p, by omega, h.1, h.2, h1⟩
  · rintro (h1 | ⟨i, h1, h2, h3, h4⟩)
    · exact .inl (.inl h1)
    · by_cases e : i = p
      · subst e; exact .inr h4
      · exact .inl (.inr ⟨i, by omega, h2, h3, h4⟩)
def L2Rel (w : World) (N : Nt) (fz : Nat → Bool) (q : Nat → Int) (n m : Nat) (ql : Nat → Rq) (us : Nat → Bool) (ix : Value) (wr : World) : Prop :=
  ∃ (p : Nat) (fnd : Bool) (least : Rq) (k : Int), p ≤ m ∧ ix = .int .i64 p ∧ Hid (LvAt w wr n ql us fnd least) ∧ Hid (Lst (Sv N fz q n p) fnd least k)
section
variable {w wr w' : World} {n : Nat} {ql : Nat → Rq} {us : Nat → Bool} {fnd : Bool} {least : Rq}
theorem LvAt.updL (h : LvAt w wr n ql us fnd least) {S : Nat → Prop} (q : Upd S wr w') (hS : ∀ k, S k → w.heap.size + 1 + 1 + 1 + 1 < k) : LvAt w w' n ql us fnd least :=
  ⟨h.t.upd q (fun e => by have := hS _ e; omega), h.le.upd q (fun e => by have := hS _ e; omega), h.fo.upd q (fun e => by have := hS _ e; omega), h.ln.upd q (fun e => by have := hS _ e; omega), h.us.upd q (fun e => by have := hS _ e; omega), Upd.below h.u q (by have := h.lt; omega) (fun i hi => by have := hS i hi; omega)⟩
end
def hereL (ql : Nat → Rq) (us : Nat → Bool) (least : Rq) (x : Int) : Bool := us x.toNat && (ql x.toNat).cmp least == 0
def L4Rel (w : World) (kb n : Nat) (rate : Rq) (ql : Nat → Rq) (us : Nat → Bool) (fnd : Bool) (least : Rq) (row : List Value) (v : Value) (kr : Nat) (h0 : Bool) (lk : List Int) (hv ix : Value) (wr : World) : Prop :=
  ∃ j : Nat, j ≤ lk.length ∧ ix = .int .i64 j ∧ hv = .bool (h0 || (lk.take j).any (hereL ql us least)) ∧ Hid (LvAt w wr n ql us fnd least) ∧ Hid (Blk wr kb 57 [.int .i64 rate.n, .int .i64 rate.d, v]) ∧
    Hid (wr.ownsRow (kb + 1) 3 1 v kr row)
theorem r33_below {w wx w4 : World} {n kb kr b xl : Nat} {ql : Nat → Rq} {us : Nat → Bool} {fnd : Bool} {least : Rq} {p0 p1 p2 p3 p4 v : Value} {T T' : TypeId} {xs row : List Value}
    (h : wx.cell? ⟨w.heap.size + 1 + 1 + 1 + 1, xl, none⟩ = some p0 ∧ wx.cell? ⟨w.heap.size + 1 + 1 + 1, xl * 2, none⟩ = some p1 ∧ wx.cell? ⟨w.heap.size + 1 + 1 + 1, xl * 2 + 1, none⟩ = some p2 ∧ wx.cell? ⟨w.heap.size + 1, 0, none⟩ = some p3 ∧ wx.cell? ⟨w.heap.size + 1, 1, none⟩ = some p4 ∧ LvAt w wx n ql us fnd least ∧ Blk wx kb T xs ∧ wx.ownsRow b T' 1 v kr row) (q : Below wx.heap.size wx w4) :
    w4.cell? ⟨w.heap.size + 1 + 1 + 1 + 1, xl, none⟩ = some p0 ∧ w4.cell? ⟨w.heap.size + 1 + 1 + 1, xl * 2, none⟩ = some p1 ∧ w4.cell? ⟨w.heap.size + 1 + 1 + 1, xl * 2 + 1, none⟩ = some p2 ∧ w4.cell? ⟨w.heap.size + 1, 0, none⟩ = some p3 ∧ w4.cell? ⟨w.heap.size + 1, 1, none⟩ = some p4 ∧ LvAt w w4 n ql us fnd least ∧ Blk w4 kb T xs ∧ w4.ownsRow b T' 1 v kr row := by
  obtain ⟨h0, h1, h2, h3, h4, h5, h6, h7⟩ := h
  refine ⟨?_, ?_, ?_, ?_, ?_, h5.below q, h6.bel q, own_upd h7 (Upd.of_below (S := fun _ => False) q) (fun _ _ => id)⟩
  · rw [q.cell (World.block_lt_of_cell? _ _ h0)]; exact h0
  · rw [q.cell (World.block_lt_of_cell? _ _ h1)]; exact h1
  · rw [q.cell (World.block_lt_of_cell? _ _ h2)]; exact h2
  · rw [q.cell (World.block_lt_of_cell? _ _ h3)]; exact h3
  · rw [q.cell (World.block_lt_of_cell? _ _ h4)]; exact h4
theorem any_step {α : Type} {g : α → Bool} {l : List α} {j : Nat} {x : α} (h0 : Bool) (h : l[j]? = some x) : (h0 || (l.take (j + 1)).any g) = ((h0 || (l.take j).any g) || g x) := by
  rw [List.take_add_one, h, List.any_append]
  simp [Bool.or_assoc]
/-- Flow i lies on the least value. -/
def hereB (fls : List Fw) (ql : Nat → Rq) (us : Nat → Bool) (least : Rq) (i : Nat) : Bool :=
  match fls[i]? with
  | some f => (f.bd && f.dm.cmp least == 0) || f.lk.any (hereL ql us least)
  | none => false
def rowH (fz hr : Nat → Bool) (p : Nat) : List Value := ((List.range p).filter fun i => !fz i && hr i).map fun (i : Nat) => Value.int .i64 (i : Int)
theorem rowH_skip {fz hr : Nat → Bool} {p : Nat} (h : (!fz p && hr p) = false) : rowH fz hr (p + 1) = rowH fz hr p := by
  unfold rowH
  rw [List.range_succ, List.filter_append]
  simp [h]
theorem rowH_take {fz hr : Nat → Bool} {p : Nat} (h : (!fz p && hr p) = true) : rowH fz hr (p + 1) = rowH fz hr p ++ [.int .i64 p] := by
  unfold rowH
  rw [List.range_succ, List.filter_append]
  simp [h]
theorem own_alloc {w : World} {b k : Nat} {T : TypeId} {v : Value} {xs : List Value} (h : w.ownsRow b T 1 v k xs) (o : Obj) : (w.alloc o).ownsRow b T 1 v k xs := by
  refine ⟨h.1, h.2.imp id ?_⟩
  rintro ⟨g, cap, cur, h1, h2, h3, h4⟩
  refine ⟨g, cap, cur, h1, h2, ?_, h4⟩
  have hg : g < w.heap.size := (Array.getElem?_eq_some_iff.1 h3).1
  rw [← h3]
  exact ((Upd.refl (fun _ => False) w).alloc o).block g hg id
theorem row_len {w : World} {b k p m : Nat} {T : TypeId} {v : Value} {fz hr : Nat → Bool} (h : w.ownsRow b T 1 v k (rowH fz hr p)) (hp : p ≤ m) : k ≤ m := by
  have h1 := h.1
  have h2 := List.length_filter_le (fun i => !fz i && hr i) (List.range p)
  unfold rowH at h1
  rw [List.length_map] at h1
  rw [List.length_range] at h2
  omega
def L3Rel (w : World) (kb n m : Nat) (rate : Rq) (ql : Nat → Rq) (us : Nat → Bool) (fnd : Bool) (least : Rq) (fz hr : Nat → Bool) (ix : Value) (wr : World) : Prop :=
  ∃ (p : Nat) (v : Value) (k : Nat), p ≤ m ∧ ix = .int .i64 p ∧ Hid (LvAt w wr n ql us fnd least) ∧ Hid (Blk wr kb 57 [.int .i64 rate.n, .int .i64 rate.d, v]) ∧
    Hid (wr.ownsRow (kb + 1) 3 1 v k (rowH fz hr p)) ∧ w.heap.size + 1 + 1 + 1 + 1 < kb
/-- What a level returns: the least value, its flows. -/
def LvPost (w : World) (N : Nt) (fls : List Fw) (fz : Nat → Bool) (q : Nat → Int) (n m : Nat) (e : Ending) (w' : World) : Prop :=
  ∃ (ql : Nat → Rq) (us : Nat → Bool) (fnd : Bool) (least : Rq) (k : Int) (rate : Rq) (va : Option Addr) (kr vc : Nat), e = .returned (.tuple #[.agg #[.int .i64 rate.n, .int .i64 rate.d, .slice va kr vc], .int .i64 0]) ∧
    (∀ l < n, us l = decide (0 < opF N fz l) ∧ (us l = true → Rp1 uU (ql l) (q l))) ∧ Lst (Sv N fz q n m) fnd least k ∧ rate = (if least.n = 0 then ⟨0, 1⟩ else least) ∧
    w'.ownsRow w.heap.size 3 1 (.slice va kr vc) kr (rowH fz (hereB fls ql us least) m) ∧ Below w.heap.size w w'
theorem least_ok {N : Nt} {fz : Nat → Bool} {r q : Nat → Int} {n m : Nat} {fnd : Bool} {least : Rq} {k : Int} (hL : N.L = n) (hq : ∀ l < N.L, 0 < opF N fz l → q l * opF N fz l = N.C l - ldF N fz r l ∧ 0 ≤ q l ∧ q l ≤ uU)
    (hD : ∀ i < m, N.bd i = true → (N.dm i).natAbs ≤ 1000000000) (hS : Lst (Sv N fz q n m) fnd least k) (x : fnd = true) : least.ok = true := by
  have h1 := hS.rp x
  rcases hS.mem x with ⟨l, h2, h3, h4⟩ | ⟨i, h2, h3, h4, h5⟩
  · obtain ⟨h5, h6, h7⟩ := hq l (by rw [hL]; exact h2) h3
    exact Rp.ok uU_pos (by decide) (by have : uU = 1244160 := rfl; omega) h1.rp
  · have h6 := hD i (by omega) h4
    exact Rp.ok uU_pos (by decide) (by omega) h1.rp
theorem ownsRow_nil (w : World) (b : Nat) (T : TypeId) : w.ownsRow b T 1 (.slice none 0 0) 0 [] := ⟨rfl, .inl ⟨rfl, rfl⟩⟩
end Go.Proofs.Ytbdaehcngmhhcaa
