/-
  What a slice of the call's own looks like.
-/
import Derived.Test.YtkaaoomliepijaaGreatQLib
import Derived.Deep.AppendLies
import Derived.Deep.RegionLaw
namespace Go.Proofs.YtkaaoomliepijaaGreat
open Go.RowKit
set_option linter.unusedVariables false

theorem own_shape {w : World} {base : Nat} {e : TypeId} {size : Nat} {v : Value} {n : Nat} {xs : List Value} (h : w.ownsRow base e size v n xs) : ∃ a c, v = .slice a n c ∧ (n = 0 ∨ ∃ g, a = some ⟨g, 0, none⟩) := by
  obtain ⟨_, h⟩ := h
  rcases h with ⟨rfl, rfl⟩ | ⟨g, cap, cur, rfl, _⟩
  · exact ⟨none, 0, rfl, .inl rfl⟩
  · exact ⟨_, _, rfl, .inr ⟨g, rfl⟩⟩

/-- What a slice of the call's own, with elements of one cell, looks like. -/
theorem own_blk {α : Type} {f : α → Value} {w : World} {base : Nat} {e : TypeId} {a : Option Addr} {n m c : Nat} {xs : List α} (h : w.ownsRow base e 1 (.slice a m c) n (xs.map f)) (hx : xs ≠ []) :
    ∃ g sp, a = some ⟨g, 0, none⟩ ∧ base ≤ g ∧ Blk w g e (xs.map f ++ sp) ∧ c = xs.length + sp.length ∧ c ≤ maxLen ∧ n = xs.length ∧ m = n := by
  obtain ⟨h1, h⟩ := h
  have hn : xs.length = n := by simpa using h1
  rcases h with ⟨_, h0⟩ | ⟨g, cap, cur, hv, hg, hh, h3, h4, h5, h6⟩
  · exact absurd (List.eq_nil_of_length_eq_zero (by omega)) hx
  · cases hv
    refine ⟨g, cur.toList.drop n, rfl, hg, ?_, by simp; omega, h4, hn.symm, rfl⟩
    unfold Blk
    rw [← h6, Nat.mul_one, List.take_append_drop]
    exact hh

theorem own_of_blk {α : Type} {f : α → Value} {w : World} {base : Nat} {e : TypeId} {g c : Nat} {xs : List α} {sp : List Value} (hg : base ≤ g) (hb : Blk w g e (xs.map f ++ sp)) (hc : c = xs.length + sp.length) (hm : c ≤ maxLen) :
    w.ownsRow base e 1 (.slice (some ⟨g, 0, none⟩) xs.length c) xs.length (xs.map f) :=
  ⟨by simp, .inr ⟨g, c, _, rfl, hg, hb, by omega, hm, by simp; omega, by simp⟩⟩

theorem own_upd {w w' : World} {base : Nat} {e : TypeId} {size : Nat} {v : Value} {n : Nat} {xs : List Value} {S : Nat → Prop} (h : w.ownsRow base e size v n xs) (u : Upd S w w') (hs : ∀ g, v.ownBlock = some g → ¬ S g) : w'.ownsRow base e size v n xs := by
  obtain ⟨h1, h⟩ := h
  refine ⟨h1, ?_⟩
  rcases h with h | ⟨g, cap, cur, rfl, hg, hh, r⟩
  · exact .inl h
  · refine .inr ⟨g, cap, cur, rfl, hg, ?_, r⟩
    have hlt : g < w.heap.size := by
      rcases Nat.lt_or_ge g w.heap.size with h1 | h1
      · exact h1
      · rw [Array.getElem?_eq_none h1] at hh; simp at hh
    rw [u.block g hlt (hs g rfl)]
    exact hh

theorem own_lt {w : World} {base : Nat} {e : TypeId} {size : Nat} {v : Value} {n : Nat} {xs : List Value} (h : w.ownsRow base e size v n xs) {g : Nat} (hg : v.ownBlock = some g) : g < w.heap.size ∧ base ≤ g := by
  obtain ⟨_, h⟩ := h
  rcases h with ⟨rfl, _⟩ | ⟨g', cap, cur, rfl, hg', hh, r⟩
  · simp [Value.ownBlock] at hg
  · simp [Value.ownBlock] at hg
    subst hg
    refine ⟨?_, hg'⟩
    rcases Nat.lt_or_ge g' w.heap.size with h1 | h1
    · exact h1
    · rw [Array.getElem?_eq_none h1] at hh; simp at hh

end Go.Proofs.YtkaaoomliepijaaGreat
