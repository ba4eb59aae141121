/-
  A ring in memory: its struct at block b, its values in a row of their own.
-/
import Derived.Test.YtdfncgfcggpgdaaLib
import Derived.Deep.AppendLies
import Derived.Deep.RegionLaw
namespace Go.Proofs.Ytdfncgfcggpgdaa
open Go.RowKit
set_option linter.unusedVariables false

structure RingAt {α : Type} (f : α → Value) (TE TR : TypeId) (w : World) (base b room : Nat) (v : Value) (xs : List α) : Prop where
  hb : Blk w b TR [.int .i64 room, v]
  own : w.ownsRow base TE 1 v xs.length (xs.map f)
  ne : v.ownBlock ≠ some b

theorem own_shape {w : World} {base : Nat} {e : TypeId} {v : Value} {n : Nat} {xs : List Value} (h : w.ownsRow base e 1 v n xs) : ∃ a c, v = .slice a n c ∧ (n = 0 ∨ ∃ g, a = some ⟨g, 0, none⟩) := by
  obtain ⟨_, h⟩ := h
  rcases h with ⟨rfl, rfl⟩ | ⟨g, cap, cur, rfl, _⟩
  · exact ⟨none, 0, rfl, .inl rfl⟩
  · exact ⟨_, _, rfl, .inr ⟨g, rfl⟩⟩

/-- What a slice of the call's own, with elements of one cell, looks like. -/
theorem own_blk {α : Type} {f : α → Value} {w : World} {base : Nat} {e : TypeId} {a : Option Addr} {n m c : Nat} {xs : List α} (h : w.ownsRow base e 1 (.slice a m c) n (xs.map f)) (hx : xs ≠ []) :
    ∃ g sp, a = some ⟨g, 0, none⟩ ∧ base ≤ g ∧ Blk w g e (xs.map f ++ sp) ∧ c = xs.length + sp.length ∧ c ≤ maxLen ∧ n = xs.length ∧ m = n := by
  obtain ⟨h1, h⟩ := h
  have hn : xs.length = n := by simpa using h1
  rcases h with ⟨_, h0⟩ | ⟨g, cap, cur, hv, hg, hh, h3, h4, h5, h6⟩
  · exact absurd (List.eq_nil_of_length_eq_zero (by omega)) hx
  · cases hv
    refine ⟨g, cur.toList.drop n, rfl, hg, ?_, by simp; omega, h4, hn.symm, rfl⟩
    unfold Blk
    rw [← h6, Nat.mul_one, List.take_append_drop]
    exact hh

theorem own_of_blk {α : Type} {f : α → Value} {w : World} {base : Nat} {e : TypeId} {g c : Nat} {xs : List α} {sp : List Value} (hg : base ≤ g) (hb : Blk w g e (xs.map f ++ sp)) (hc : c = xs.length + sp.length) (hm : c ≤ maxLen) :
    w.ownsRow base e 1 (.slice (some ⟨g, 0, none⟩) xs.length c) xs.length (xs.map f) :=
  ⟨by simp, .inr ⟨g, c, _, rfl, hg, hb, by omega, hm, by simp; omega, by simp⟩⟩

theorem own_upd {w w' : World} {base : Nat} {e : TypeId} {size : Nat} {v : Value} {n : Nat} {xs : List Value} {S : Nat → Prop} (h : w.ownsRow base e size v n xs) (u : Upd S w w') (hs : ∀ g, v.ownBlock = some g → ¬ S g) : w'.ownsRow base e size v n xs := by
  obtain ⟨h1, h⟩ := h
  refine ⟨h1, ?_⟩
  rcases h with h | ⟨g, cap, cur, rfl, hg, hh, r⟩
  · exact .inl h
  · refine .inr ⟨g, cap, cur, rfl, hg, ?_, r⟩
    have hlt : g < w.heap.size := by
      rcases Nat.lt_or_ge g w.heap.size with h1 | h1
      · exact h1
      · rw [Array.getElem?_eq_none h1] at hh; simp at hh
    rw [u.block g hlt (hs g rfl)]
    exact hh

theorem own_lt {w : World} {base : Nat} {e : TypeId} {size : Nat} {v : Value} {n : Nat} {xs : List Value} (h : w.ownsRow base e size v n xs) {g : Nat} (hg : v.ownBlock = some g) : g < w.heap.size ∧ base ≤ g := by
  obtain ⟨_, h⟩ := h
  rcases h with ⟨rfl, _⟩ | ⟨g', cap, cur, rfl, hg', hh, r⟩
  · simp [Value.ownBlock] at hg
  · simp [Value.ownBlock] at hg
    subst hg
    refine ⟨?_, hg'⟩
    rcases Nat.lt_or_ge g' w.heap.size with h1 | h1
    · exact h1
    · rw [Array.getElem?_eq_none h1] at hh; simp at hh

theorem RingAt.upd {α : Type} {f : α → Value} {TE TR : TypeId} {w w' : World} {base b room : Nat} {v : Value} {xs : List α} {S : Nat → Prop} (h : RingAt f TE TR w base b room v xs) (u : Upd S w w') (hb : ¬ S b) (hs : ∀ g, v.ownBlock = some g → ¬ S g) :
    RingAt f TE TR w' base b room v xs := ⟨h.hb.upd u hb, own_upd h.own u hs, h.ne⟩
theorem RingAt.qt {α : Type} {f : α → Value} {TE TR : TypeId} {w w' : World} {base b room : Nat} {v : Value} {xs : List α} (h : RingAt f TE TR w base b room v xs) (q : Qt w w') : RingAt f TE TR w' base b room v xs :=
  h.upd (S := fun _ => False) (Upd.of_below q.bel) id fun _ _ => id
theorem RingAt.below {α : Type} {f : α → Value} {TE TR : TypeId} {w w' : World} {base b room : Nat} {v : Value} {xs : List α} (h : RingAt f TE TR w base b room v xs) (q : Below w.heap.size w w') : RingAt f TE TR w' base b room v xs :=
  h.upd (S := fun _ => False) (Upd.of_below q) id fun _ _ => id

/-- The blocks that a ring's methods may write. -/
def ringS (b : Nat) (v : Value) (k : Nat) : Prop := k = b ∨ v.ownBlock = some k

def PutPost {α : Type} (f : α → Value) (TE TR : TypeId) (w : World) (base b room : Nat) (v : Value) (xs : List α) (e : Ending) (w' : World) : Prop :=
  ∃ v', e = .returned (.int .i64 0) ∧ RingAt f TE TR w' base b room v' xs ∧ Upd (ringS b v) w w' ∧ (v'.ownBlock = v.ownBlock ∨ ∀ g, v'.ownBlock = some g → w.heap.size ≤ g)
def TakePost {α : Type} (f : α → Value) (TE TR : TypeId) (w : World) (base b room : Nat) (v : Value) (x : Value) (xs : List α) (e : Ending) (w' : World) : Prop :=
  ∃ v', e = .returned (.tuple #[x, .bool true]) ∧ RingAt f TE TR w' base b room v' xs ∧ Upd (ringS b v) w w' ∧ v'.ownBlock = v.ownBlock

theorem Upd.of_grown {w w' : World} {b : Nat} {v : Value} (h : w.grownBy w' v.ownBlock) : Upd (ringS b v) w w' :=
  ⟨h.os, h.tape, h.output, h.size, fun k hk hs => h.block k hk fun e => hs (.inr e.symm)⟩

theorem drop_app1 {α : Type} (A : List α) (y : α) (B : List α) : (A ++ y :: B).drop (A.length + 1) = B := by
  induction A with
  | nil => rfl
  | cons a A ih => simp
theorem Blk.setCells {T : TypeId} {b : Nat} : ∀ (vs : List Value) (o : Nat) (w : World) (xs : List Value), Blk w b T xs → o + vs.length ≤ xs.length → Blk (w.setCells b o vs) b T (xs.take o ++ vs ++ xs.drop (o + vs.length))
  | [], o, w, xs, h, _ => by simpa [World.setCells] using h
  | v :: r, o, w, xs, h, hl => by
    simp only [List.length_cons] at hl
    have h1 := Blk.setCells r (o + 1) (w.setCell ⟨b, o, none⟩ v) (xs.set o v) (h.set o v) (by simp; omega)
    simp only [World.setCells]
    have e : (xs.set o v).take (o + 1) ++ r ++ (xs.set o v).drop (o + 1 + r.length) = xs.take o ++ v :: r ++ xs.drop (o + (v :: r).length) := by
      rw [List.drop_set_of_lt (by omega), List.take_add_one, List.take_set_of_le (Nat.le_refl _), List.getElem?_set_self (by omega)]
      simp [Nat.add_assoc, Nat.add_comm 1]
    rw [← e]
    exact h1
theorem Upd.setCells {S : Nat → Prop} {b : Nat} : ∀ (vs : List Value) (o : Nat) (a w : World), Upd S a w → S b → Upd S a (w.setCells b o vs)
  | [], _, _, _, h, _ => h
  | v :: r, o, a, w, h, hb => Upd.setCells r (o + 1) a _ (h.setCell ⟨b, o, none⟩ v (fun _ => hb)) hb
theorem size_setCells' (b : Nat) : ∀ (vs : List Value) (o : Nat) (w : World), (w.setCells b o vs).heap.size = w.heap.size
  | [], _, _ => rfl
  | v :: r, o, w => by simp only [World.setCells]; rw [size_setCells' b r]; simp
end Go.Proofs.Ytdfncgfcggpgdaa
