/-
  Memory in pieces: roles, the block or row of each, and that no two share a block.
-/
import Derived.Test.YtkooihniieepcaaCells
namespace Go.Proofs.Ytkooihniieepcaa
open Go.RowKit
set_option linter.unusedVariables false

inductive Pc where
  | blk (k : Nat) (T : TypeId) (l : List Value)
  | row (v : Value) (T : TypeId) (sz n : Nat) (l : List Value)
def Pc.foot : Pc → Option Nat
  | .blk k _ _ => some k
  | .row v _ _ _ _ => v.ownBlock
def Pc.at (w : World) (base : Nat) : Pc → Prop
  | .blk k T l => Blk w k T l ∧ base ≤ k
  | .row v T sz n l => w.ownsRow base T sz v n l
theorem Pc.lt {w : World} {base : Nat} {p : Pc} (h : p.at w base) {k : Nat} (hk : p.foot = some k) : base ≤ k ∧ k < w.heap.size := by
  cases p with
  | blk b T l =>
    have : b = k := by simpa [Pc.foot] using hk
    subst this
    exact ⟨h.2, h.1.lt⟩
  | row v T sz n l =>
    have := own_lt (w := w) h (g := k) hk
    exact ⟨this.2, this.1⟩
theorem Pc.upd {S : Nat → Prop} {w w' : World} {base : Nat} {p : Pc} (h : p.at w base) (u : Upd S w w') (hs : ∀ k, p.foot = some k → ¬ S k) : p.at w' base := by
  cases p with
  | blk b T l => exact ⟨h.1.upd u (hs b rfl), h.2⟩
  | row v T sz n l => exact own_upd (w := w) h u hs
section
variable {ρ : Type}
/-- The memory of a structure: each role's piece, apart from all others. -/
structure St (w : World) (base : Nat) (C : ρ → Option Pc) : Prop where
  at_ : ∀ r p, C r = some p → p.at w base
  sep : ∀ r r' p p' k, C r = some p → C r' = some p' → p.foot = some k → p'.foot = some k → r = r'
/-- The blocks that it takes. -/
def ftC (C : ρ → Option Pc) (k : Nat) : Prop := ∃ r p, C r = some p ∧ p.foot = some k
def setC [DecidableEq ρ] (C : ρ → Option Pc) (r : ρ) (p : Pc) : ρ → Option Pc := fun x => if x = r then some p else C x
theorem setC_same [DecidableEq ρ] (C : ρ → Option Pc) (r : ρ) (p : Pc) : setC C r p r = some p := by unfold setC; rw [if_pos rfl]
theorem setC_ne [DecidableEq ρ] (C : ρ → Option Pc) {r x : ρ} (p : Pc) (h : x ≠ r) : setC C r p x = C x := by unfold setC; rw [if_neg h]
variable {w w' : World} {base : Nat} {C : ρ → Option Pc}
theorem St.lt (h : St w base C) {k : Nat} (hk : ftC C k) : base ≤ k ∧ k < w.heap.size := by
  obtain ⟨r, p, h1, h2⟩ := hk
  exact Pc.lt (h.at_ r p h1) h2
theorem St.upd {S : Nat → Prop} (h : St w base C) (u : Upd S w w') (hs : ∀ k, ftC C k → ¬ S k) : St w' base C :=
  ⟨fun r p hp => Pc.upd (h.at_ r p hp) u fun k hk => hs k ⟨r, p, hp, hk⟩, h.sep⟩
theorem St.below (h : St w base C) (q : Below w.heap.size w w') : St w' base C := h.upd (S := fun _ => False) (Upd.of_below q) fun _ _ => id
/-- One piece has changed, or has come. -/
theorem St.put [DecidableEq ρ] {S : Nat → Prop} (h : St w base C) (r : ρ) (p' : Pc) (u : Upd S w w') (hS : ∀ k, S k → k < w.heap.size → ∃ p, C r = some p ∧ p.foot = some k) (hp : p'.at w' base) (hf : ∀ k, p'.foot = some k → (∃ p, C r = some p ∧ p.foot = some k) ∨ w.heap.size ≤ k) : St w' base (setC C r p') := by
  have old : ∀ x p k, x ≠ r → C x = some p → p.foot = some k → ¬ S k ∧ k < w.heap.size := fun x p k hx hp hk => by
    have hl := (Pc.lt (h.at_ x p hp) hk).2
    refine ⟨fun hs => ?_, hl⟩
    obtain ⟨p0, h0, h1⟩ := hS k hs hl
    exact hx (h.sep x r p p0 k hp h0 hk h1)
  refine ⟨fun x p hx => ?_, fun x x' p p2 k h1 h2 h3 h4 => ?_⟩
  · by_cases e : x = r
    · subst e
      rw [setC_same] at hx
      cases hx
      exact hp
    · rw [setC_ne C p' e] at hx
      exact Pc.upd (h.at_ x p hx) u fun k hk => (old x p k e hx hk).1
  · have key : ∀ y q, y ≠ r → C y = some q → q.foot = some k → p'.foot = some k → False := fun y q hy hq hk hk' => by
      rcases hf k hk' with ⟨p0, h0, h1⟩ | hge
      · exact hy (h.sep y r q p0 k hq h0 hk h1)
      · have := (old y q k hy hq hk).2
        omega
    by_cases e : x = r
    · by_cases e' : x' = r
      · rw [e, e']
      · subst e
        rw [setC_same] at h1
        cases h1
        rw [setC_ne C p' e'] at h2
        exact (key x' p2 e' h2 h4 h3).elim
    · rw [setC_ne C p' e] at h1
      by_cases e' : x' = r
      · subst e'
        rw [setC_same] at h2
        cases h2
        exact (key x p e h1 h3 h4).elim
      · rw [setC_ne C p' e'] at h2
        exact h.sep x x' p p2 k h1 h2 h3 h4
/-- A store into a block. -/
theorem St.store [DecidableEq ρ] (h : St w base C) {r : ρ} {k : Nat} {T : TypeId} {l l' : List Value} {i : Nat} {v : Value} (hr : C r = some (.blk k T l)) (hl : l.set i v = l') : St (w.setCell ⟨k, i, none⟩ v) base (setC C r (.blk k T l')) := by
  obtain ⟨hb, hk⟩ := h.at_ r _ hr
  refine h.put r (.blk k T l') ((Upd.refl (fun j => j = k) w).setCell ⟨k, i, none⟩ v fun _ => rfl) (fun j hj _ => ⟨_, hr, by rw [hj]; rfl⟩) ⟨by rw [← hl]; exact hb.set i v, hk⟩ (fun j hj => .inl ⟨_, hr, hj⟩)
theorem St.congr {C' : ρ → Option Pc} (h : St w base C) (e : ∀ r, C r = C' r) : St w base C' := by
  have : C = C' := funext e
  rw [← this]
  exact h
theorem St.blk (h : St w base C) {r : ρ} {k : Nat} {T : TypeId} {l : List Value} (hr : C r = some (.blk k T l)) : Blk w k T l := (h.at_ r _ hr).1
theorem St.row (h : St w base C) {r : ρ} {v : Value} {T : TypeId} {sz n : Nat} {l : List Value} (hr : C r = some (.row v T sz n l)) : w.ownsRow base T sz v n l := h.at_ r _ hr
theorem St.upd1 (h : St w base C) {r : ρ} {p : Pc} (hr : C r = some p) {S : Nat → Prop} (u : Upd S w w') (hs : ∀ k, p.foot = some k → ¬ S k) : p.at w' base := Pc.upd (h.at_ r p hr) u hs
end
end Go.Proofs.Ytkooihniieepcaa
