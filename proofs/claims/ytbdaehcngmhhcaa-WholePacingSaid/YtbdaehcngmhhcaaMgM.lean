/-
  The memory of pace.merge: a row of rows of ticks, and the queue of waiting frames.
-/
import Derived.Test.YtbdaehcngmhhcaaPcS
import Derived.Test.YtbdaehcngmhhcaaVw
namespace Go.Proofs.Ytbdaehcngmhhcaa
open Go.RowKit
set_option linter.unusedVariables false

theorem fun_constQ {α : Type} (f : α → Value) (n : Nat) (x : α) : (List.replicate n x).map f = (List.range n).map fun _ => f x := by
  apply List.ext_getElem?
  intro i
  rw [List.getElem?_map, List.getElem?_map]
  by_cases h : i < n
  · rw [List.getElem?_replicate_of_lt h, List.getElem?_range h]; rfl
  · rw [List.getElem?_eq_none (by simpa using h), List.getElem?_eq_none (by simpa using h)]; rfl
theorem Try.infoRow : (Try.prog.info? 33).map (fun i => (i.zero, i.size, i.bytes)) = some (some (.slice none 0 0), 1, 24) := by kernel_rfl
theorem Try.infoFrame : (Try.prog.info? 116).map (fun i => (i.zero, i.size, i.bytes)) = some (some (.agg #[.int .i64 0]), 1, 8) := by kernel_rfl
theorem make_rows (w : World) (n : Nat) (h : n ≤ 1000000) : (Instr.makeSlice 64 (.int .i64 n) (.int .i64 n)).run Try.prog w =
    .ok (.slice (some ⟨w.heap.size, 0, none⟩) n n) (w.alloc (.cells ((List.range n).map fun _ => Value.slice none 0 0).toArray 33)) := by
  obtain ⟨i, hi, hz, hs, hb⟩ := info_parts Try.infoRow
  rw [run_make w 64 33 i _ Try.underlying64 hi hz .i64 .i64 n n (by omega) (by omega) (by rw [hb]; omega) (by omega)]
  have e : madeCells (Value.slice none 0 0).cells (((n : Int).toNat) * i.size) = ((List.range n).map fun _ => Value.slice none 0 0).toArray := by
    rw [hs, Nat.mul_one, Int.toNat_natCast]
    apply Array.toList_inj.1
    rw [show (Value.slice none 0 0).cells = #[Value.slice none 0 0] from rfl, toList_madeCells_one]
    have := fun_constQ (fun _ : Unit => Value.slice none 0 0) n ()
    rw [← this]
    simp
  rw [e, Int.toNat_natCast]
def updQ {α : Type} (f : Nat → α) (k : Nat) (v : α) : Nat → α := fun j => if j = k then v else f j
theorem range_updQ {α : Type} (f : Nat → α) {n k : Nat} (v : α) (h : k < n) : (List.range n).map (updQ f k v) = ((List.range n).map f).set k v := by
  apply List.ext_getElem?
  intro i
  rw [List.getElem?_set]
  simp only [List.length_map, List.length_range, List.getElem?_map, h, if_true]
  by_cases hi : i < n
  · rw [List.getElem?_range hi]
    by_cases e : k = i
    · subst e; simp [updQ]
    · simp [e, updQ, Ne.symm e]
  · rw [List.getElem?_eq_none (by simpa using hi)]
    have : ¬ k = i := by omega
    simp [this]
def fV (f : Fq) : Value := .int .i64 (f.i : Nat)
def tV (t : Nat) : Value := .int .i64 (t : Nat)
structure MgAt (w w' : World) (n sb : Nat) (vs : Nat → Value) (qv : Value) (q : List Fq) (sent : Nat → List Nat) : Prop where
  sbw : w.heap.size ≤ sb
  hs : Blk w' sb 33 ((List.range n).map vs)
  row : ∀ i < n, Vw tV 3 w' w.heap.size (vs i) (sent i)
  rb : ∀ i < n, (vs i).ownBlock ≠ some sb
  ap : ∀ i < n, ∀ j < n, i ≠ j → ∀ g, (vs i).ownBlock = some g → (vs j).ownBlock ≠ some g
  hq : Vw fV 116 w' w.heap.size qv q
  qb : ∀ g, qv.ownBlock = some g → g ≠ sb ∧ ∀ i < n, (vs i).ownBlock ≠ some g
  u : Below w.heap.size w w'
section
variable {w w' w'' : World} {n sb : Nat} {vs : Nat → Value} {qv : Value} {q : List Fq} {sent : Nat → List Nat}
theorem MgAt.start (w : World) (n : Nat) (o : Obj) (ho : o = .cells ((List.range n).map fun _ => Value.slice none 0 0).toArray 33) :
    MgAt w (w.alloc o) n w.heap.size (fun _ => .slice none 0 0) (.slice none 0 0) [] (fun _ => []) := by
  subst ho
  refine ⟨Nat.le_refl _, Blk.new _ _ _, fun i _ => Vw.nil _ _ _ _, fun i _ => by simp [Value.ownBlock], fun i _ j _ _ g h => by simp [Value.ownBlock] at h, Vw.nil _ _ _ _, fun g h => by simp [Value.ownBlock] at h, (Below.refl _ _).alloc (Nat.le_refl _) _⟩
theorem MgAt.upd {S : Nat → Prop} (h : MgAt w w' n sb vs qv q sent) (u : Upd S w' w'') (h1 : ¬ S sb) (h2 : ∀ i < n, ∀ g, (vs i).ownBlock = some g → ¬ S g) (h3 : ∀ g, qv.ownBlock = some g → ¬ S g) (hS : ∀ g, S g → w.heap.size ≤ g) : MgAt w w'' n sb vs qv q sent :=
  ⟨h.sbw, h.hs.upd u h1, fun i hi => (h.row i hi).upd u (h2 i hi), h.rb, h.ap, h.hq.upd u h3, h.qb, Upd.below h.u u h.u.size hS⟩
theorem MgAt.below (h : MgAt w w' n sb vs qv q sent) (u : Below w'.heap.size w' w'') : MgAt w w'' n sb vs qv q sent :=
  h.upd (S := fun _ => False) (Upd.of_below u) id (fun _ _ _ _ => id) (fun _ _ => id) (fun _ h => h.elim)
/-- A frame has come to the queue. -/
theorem MgAt.push (h : MgAt w w' n sb vs qv q sent) {w1 : World} (b : Below w'.heap.size w' w1) {v' : Value} {q' : List Fq} (hv : Vw fV 116 w'' w.heap.size v' q') (u : Upd (fun k => qv.ownBlock = some k) w1 w'')
    (hb : v'.ownBlock = qv.ownBlock ∨ ∀ g, v'.ownBlock = some g → w1.heap.size ≤ g) : MgAt w w'' n sb vs v' q' sent := by
  have h1 := h.below b
  refine ⟨h.sbw, h1.hs.upd u (fun e => (h.qb _ e).1 rfl), fun i hi => (h1.row i hi).upd u (fun g hg e => (h.qb g e).2 i hi hg), h.rb, h.ap, hv, fun g hg => ?_, Upd.below h1.u u h1.u.size (fun g hg => (h1.hq.lt hg).1)⟩
  rcases hb with e | e
  · exact h.qb g (by rw [← e]; exact hg)
  · have := e g hg
    refine ⟨?_, fun i hi hgi => ?_⟩
    · have := h1.hs.lt; omega
    · have := ((h1.row i hi).lt hgi).2; omega
/-- A frame of flow i is sent: its row grows. -/
theorem MgAt.send (h : MgAt w w' n sb vs qv q sent) {w1 : World} (b : Below w'.heap.size w' w1) {i : Nat} (hi : i < n) {v' : Value} {l' : List Nat} (hv : Vw tV 3 w'' w.heap.size v' l') (u : Upd (fun k => (vs i).ownBlock = some k) w1 w'')
    (hb : v'.ownBlock = (vs i).ownBlock ∨ ∀ g, v'.ownBlock = some g → w1.heap.size ≤ g) : MgAt w (w''.setCell ⟨sb, i, none⟩ v') n sb (updQ vs i v') qv q (updQ sent i l') := by
  have h1 := h.below b
  have hS : Blk w'' sb 33 ((List.range n).map vs) := h1.hs.upd u (h.rb i hi)
  have hne : ∀ g, v'.ownBlock = some g → g ≠ sb := fun g hg e => by
    subst e
    rcases hb with e | e
    · exact h.rb i hi (by rw [← e]; exact hg)
    · have := e g hg; have := h1.hs.lt; omega
  have hq : Vw fV 116 w'' w.heap.size qv q := h1.hq.upd u (fun g hg e => (h.qb g hg).2 i hi e)
  have far : ∀ (S : Nat → Prop) , True := fun _ => trivial
  have us : Upd (fun k => k = sb) w'' (w''.setCell ⟨sb, i, none⟩ v') := (Upd.refl _ _).setCell _ _ fun _ => rfl
  have apart : ∀ j < n, j ≠ i → ∀ g, v'.ownBlock = some g → (vs j).ownBlock ≠ some g := fun j hj hji g hg e => by
    rcases hb with e2 | e2
    · exact h.ap i hi j hj (fun x => hji x.symm) g (by rw [← e2]; exact hg) e
    · have := e2 g hg; have := ((h1.row j hj).lt e).2; omega
  refine ⟨h.sbw, ?_, fun j hj => ?_, fun j hj => ?_, fun j hj k hk hjk g hg => ?_, hq.upd us (fun g hg => (h.qb g hg).1), fun g hg => ⟨(h.qb g hg).1, fun j hj => ?_⟩, ?_⟩
  · rw [range_updQ vs v' hi]; exact hS.set i v'
  · unfold updQ
    by_cases e : j = i
    · subst e
      rw [if_pos rfl, if_pos rfl]
      exact hv.upd us (fun g hg => hne g hg)
    · rw [if_neg e, if_neg e]
      exact ((h1.row j hj).upd u (fun g hg x => h.ap i hi j hj (fun y => e y.symm) g x hg)).upd us (fun g hg x => h.rb j hj (by rw [← x]; exact hg))
  · unfold updQ
    by_cases e : j = i
    · rw [if_pos e]; exact fun x => hne sb x rfl
    · rw [if_neg e]; exact h.rb j hj
  · unfold updQ at hg ⊢
    by_cases e : j = i
    · rw [if_pos e] at hg
      rw [if_neg (fun x => hjk (by rw [e, x]))]
      exact apart k hk (fun x => hjk (by rw [e, x])) g hg
    · rw [if_neg e] at hg
      by_cases e2 : k = i
      · rw [if_pos e2]; exact fun x => apart j hj e g x hg
      · rw [if_neg e2]; exact h.ap j hj k hk hjk g hg
  · unfold updQ
    by_cases e : j = i
    · rw [if_pos e]
      intro x
      rcases hb with e2 | e2
      · exact (h.qb g hg).2 i hi (by rw [← e2]; exact x)
      · have := e2 g x; have := (h1.hq.lt hg).2; omega
    · rw [if_neg e]; exact (h.qb g hg).2 j hj
  · refine Below.setCell ?_ h.sbw _
    exact Upd.below h1.u u h1.u.size (fun g hg => ((h1.row i hi).lt hg).1)
/-- The head of the queue is taken off. -/
theorem MgAt.pop {a : Option Addr} {m c : Nat} (h : MgAt w w' n sb vs (.slice a m c) q sent) (hq : q ≠ []) : MgAt w w' n sb vs (cutV a m c 1) q.tail sent := by
  have hl : 1 ≤ q.length := by cases q with | nil => exact absurd rfl hq | cons _ _ => simp
  have ha : a ≠ none := by
    rcases h.hq with ⟨_, e⟩ | ⟨g, o, c', e, _⟩
    · exact absurd e hq
    · cases e; simp
  have hd := h.hq.drop hl
  rw [List.drop_one] at hd
  refine ⟨h.sbw, h.hs, h.row, h.rb, h.ap, hd, fun g hg => ?_, h.u⟩
  exact h.qb g (cutV_block (fun e => absurd e ha) hg)
end
end Go.Proofs.Ytbdaehcngmhhcaa
