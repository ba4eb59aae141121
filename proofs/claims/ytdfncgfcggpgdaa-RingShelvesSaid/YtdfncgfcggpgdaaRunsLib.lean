/-
  RingRuns: what holds between the rounds: a ring, and the reference's queue in a variable.
-/
import Derived.Test.YtdfncgfcggpgdaaRef
namespace Go.Proofs.Ytdfncgfcggpgdaa
open Go.RowKit
set_option linter.unusedVariables false

theorem rw_upd {S : Nat → Prop} {w w' : World} {base : Nat} {v : Value} {xs : List Int} (h : RwI w base v xs) (u : Upd S w w') (hs : ∀ g, v.ownBlock = some g → ¬ S g) : RwI w' base v xs :=
  Rw.of_own (own_upd h.own u hs)
theorem rw_base {w : World} {base base' : Nat} {v : Value} {xs : List Int} (h : RwI w base v xs) (hb : base' ≤ base) : RwI w base' v xs := by
  obtain ⟨a, c, e, hr⟩ := h
  refine ⟨a, c, e, ?_⟩
  rcases hr with hr | ⟨g, sp, e1, hg, rest⟩
  · exact .inl hr
  · exact .inr ⟨g, sp, e1, by omega, rest⟩
structure RQ (W w : World) (b qb room : Nat) (v : Value) (qa : Option Addr) (n qc : Nat) (xs ys : List Int) : Prop where
  ring : RingAt (Value.int .i64) 3 88 w b b room v xs
  blk : Blk w qb 51 [.int .i64 room, .slice qa n qc]
  row : RwI w (qb + 1) (.slice qa n qc) ys
  hn : n = ys.length
  ap : ∀ g, v.ownBlock = some g → g ≠ qb ∧ (Value.slice qa n qc).ownBlock ≠ some g
  lt : b < qb
  bel : Below W.heap.size W w
  base : W.heap.size ≤ b
theorem RQ.below {W w w' : World} {b qb room : Nat} {v : Value} {qa : Option Addr} {n qc : Nat} {xs ys : List Int} (h : RQ W w b qb room v qa n qc xs ys) (hb : Below w.heap.size w w') : RQ W w' b qb room v qa n qc xs ys :=
  ⟨h.ring.below hb, h.blk.upd (S := fun _ => False) (Upd.of_below hb) id, rw_upd (S := fun _ => False) h.row (Upd.of_below hb) (fun _ _ => id), h.hn, h.ap, h.lt, h.bel.trans (hb.mono h.bel.size), h.base⟩
abbrev stQ (w : World) (qb room : Nat) (qa : Option Addr) (n qc : Nat) : World := (w.setCell ⟨qb, 0, none⟩ (.int .i64 room)).setCell ⟨qb, 1, none⟩ (.slice qa n qc)
theorem upd_stQ (w : World) (qb room : Nat) (qa : Option Addr) (n qc : Nat) : Upd (fun k => k = qb) w (stQ w qb room qa n qc) :=
  Upd.setCell (S := fun k => k = qb) (Upd.setCell (S := fun k => k = qb) (Upd.refl _ _) _ _ (fun _ => rfl)) _ _ (fun _ => rfl)
theorem RQ.store {W w w' : World} {b qb room : Nat} {v : Value} {qa : Option Addr} {n qc : Nat} {xs ys : List Int} (h : RQ W w b qb room v qa n qc xs ys) (hb : Below w.heap.size w w')
    {a : Option Addr} {m c : Nat} {zs : List Int} (hr : RwI w' (qb + 1) (.slice a m c) zs) (hm : m = zs.length) (hap : ∀ g, v.ownBlock = some g → (Value.slice a m c).ownBlock ≠ some g) :
    RQ W (stQ w' qb room a m c) b qb room v a m c xs zs := by
  have h' := h.below hb
  have u := upd_stQ w' qb room a m c
  refine ⟨h'.ring.upd u (by have := h.lt; omega) (fun g hg => (h.ap g hg).1), (h'.blk.set 0 (.int .i64 room)).set 1 (.slice a m c), rw_upd hr u (fun g hg e => ?_), hm, fun g hg => ⟨(h.ap g hg).1, hap g hg⟩, h.lt, ?_, h.base⟩
  · have := (own_lt hr.own hg).2
    omega
  · exact Upd.below h'.bel u h'.bel.size (fun i hi => by have := h.lt; have := h.base; omega)
theorem RQ.new {W w w' : World} {b qb room : Nat} {v : Value} {qa : Option Addr} {n qc : Nat} {xs ys : List Int} (h : RQ W w b qb room v qa n qc xs ys) (hb : Below w.heap.size w w')
    {a : Option Addr} {m c : Nat} {zs : List Int} (hr : RwI w' w.heap.size (.slice a m c) zs) (hm : m = zs.length) : RQ W (stQ w' qb room a m c) b qb room v a m c xs zs :=
  h.store hb (rw_base hr h.blk.lt) hm (fun g hg e => by
    have h1 := (own_lt hr.own e).2
    have h2 := (own_lt h.ring.own hg).1
    omega)
theorem RQ.same {W w w' : World} {b qb room : Nat} {v : Value} {qa : Option Addr} {n qc : Nat} {xs ys : List Int} (h : RQ W w b qb room v qa n qc xs ys) (hb : Below w.heap.size w w') : RQ W (stQ w' qb room qa n qc) b qb room v qa n qc xs ys :=
  h.store hb (h.below hb).row h.hn (fun g hg => (h.ap g hg).2)
theorem RQ.step {W w w' : World} {b qb room : Nat} {v v' : Value} {qa : Option Addr} {n qc : Nat} {xs xs' ys : List Int} (h : RQ W w b qb room v qa n qc xs ys)
    (hR : RingAt (Value.int .i64) 3 88 w' b b room v' xs') (hU : Upd (ringS b v) w w') (hv : v'.ownBlock = v.ownBlock ∨ ∀ g, v'.ownBlock = some g → w.heap.size ≤ g) : RQ W w' b qb room v' qa n qc xs' ys := by
  have hl := h.lt
  refine ⟨hR, h.blk.upd hU (fun e => ?_), rw_upd h.row hU (fun g hg e => ?_), h.hn, fun g hg => ?_, h.lt, ring_below h.bel h.ring hU h.base h.base h.bel.size, h.base⟩
  · rcases e with e | e
    · omega
    · exact (h.ap _ e).1 rfl
  · have h1 := (own_lt h.row.own hg).2
    rcases e with e | e
    · omega
    · exact (h.ap _ e).2 hg
  · rcases hv with hv | hv
    · exact h.ap g (by rw [← hv]; exact hg)
    · have h1 := hv g hg
      refine ⟨fun e => ?_, fun e => ?_⟩
      · have := h.blk.lt; omega
      · have := (own_lt h.row.own e).1; omega
def RT (W : World) (b qb room : Nat) (v : Value) (qa : Option Addr) (n qc : Nat) (xs : List Int) (a7 : Option Addr) (w : World) : Prop := RQ W w b qb room v qa n qc xs xs ∧ Sl (Value.int .i64) w a7 xs
theorem RT.below {W w w' : World} {b qb room : Nat} {v : Value} {qa : Option Addr} {n qc : Nat} {xs : List Int} {a7 : Option Addr} (h : RT W b qb room v qa n qc xs a7 w) (hb : Below w.heap.size w w') : RT W b qb room v qa n qc xs a7 w' := ⟨h.1.below hb, h.2.below hb⟩
theorem RT.drew {W w : World} {b qb room : Nat} {v : Value} {qa : Option Addr} {n qc : Nat} {xs : List Int} {a7 : Option Addr} (h : RT W b qb room v qa n qc xs a7 w) : RT W b qb room v qa n qc xs a7 w.drew := h.below (Qt.refl w).drew.bel
theorem RT.s {W w : World} {b qb room : Nat} {v : Value} {qa : Option Addr} {n qc : Nat} {xs : List Int} {a7 : Option Addr} (h : RT W b qb room v qa n qc xs a7 w) : w.cell? ⟨qb, 1, none⟩ = some (.slice qa n qc) ∧ RT W b qb room v qa n qc xs a7 w := ⟨h.1.blk.cell (i := 1) rfl, h⟩
def RnRel (W : World) (b qb room len : Nat) (i : Value) (w : World) : Prop :=
  ∃ (k : Nat) (v : Value) (qa : Option Addr) (n qc : Nat) (xs : List Int), k ≤ len ∧ i = .int .i64 k ∧ xs.length ≤ room ∧ RQ W w b qb room v qa n qc xs xs
end Go.Proofs.Ytdfncgfcggpgdaa
