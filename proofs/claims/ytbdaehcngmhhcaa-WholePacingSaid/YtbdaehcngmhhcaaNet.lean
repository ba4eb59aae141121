/-
  A net in memory; what it takes to be valid.
-/
import Derived.Test.YtbdaehcngmhhcaaCells
import Derived.Test.YtbdaehcngmhhcaaSlices
import Derived.Test.YtbdaehcngmhhcaaArith
import Derived.Test.YtbdaehcngmhhcaaOpen3
namespace Go.Proofs.Ytbdaehcngmhhcaa
open Go.RowKit
set_option linter.unusedVariables false

theorem B2.N {w wx : World} {T T' : TypeId} {c0 c1 d0 d1 : Value} (h : B2 w wx T T' [c0, c1] [d0, d1]) :
    wx.cell? ⟨w.heap.size, 0, none⟩ = some c0 ∧ wx.cell? ⟨w.heap.size, 1, none⟩ = some c1 ∧ wx.cell? ⟨w.heap.size + 1, 0, none⟩ = some d0 ∧ wx.cell? ⟨w.heap.size + 1, 1, none⟩ = some d1 :=
  ⟨h.a.cell rfl, h.a.cell rfl, h.b.cell rfl, h.b.cell rfl⟩
/-- Slice address a leads to the records of xs, s cells each. -/
def SlC {α : Type} (f : α → List Value) (s : Nat) (w : World) (a : Option Addr) (xs : List α) : Prop :=
  ∀ j x, xs[j]? = some x → ∀ k v, (f x)[k]? = some v → okAd a = true ∧ w.cell? (adr a (j * s + k)) = some v
theorem SlC.mono {α : Type} {f : α → List Value} {s : Nat} {w w' : World} {a : Option Addr} {xs : List α} (h : SlC f s w a xs) (hc : ∀ p v, w.cell? p = some v → p.block = (a.getD default).block → w'.cell? p = some v) : SlC f s w' a xs :=
  fun j x hj k v hk => ⟨(h j x hj k v hk).1, hc _ _ (h j x hj k v hk).2 rfl⟩
theorem SlC.below {α : Type} {f : α → List Value} {s : Nat} {w w' : World} {a : Option Addr} {xs : List α} (h : SlC f s w a xs) (q : Below w.heap.size w w') : SlC f s w' a xs :=
  h.mono fun p v hv _ => by rw [q.cell (World.block_lt_of_cell? _ _ hv)]; exact hv
theorem SlC.upd {α : Type} {f : α → List Value} {s : Nat} {S : Nat → Prop} {w w' : World} {a : Option Addr} {xs : List α} (h : SlC f s w a xs) (u : Upd S w w') (hs : ¬ S (a.getD default).block) : SlC f s w' a xs :=
  h.mono fun p v hv hp => by rw [u.cell (World.block_lt_of_cell? _ _ hv) (by rw [hp]; exact hs)]; exact hv
theorem SlC.own {α : Type} {f : α → List Value} {s : Nat} (hf : ∀ x, (f x).length = s) (hs : 0 < s) {w : World} {base : Nat} {T : TypeId} {a : Option Addr} {n m c : Nat} {xs : List α} (h : w.ownsRow base T s (.slice a m c) n (flC f xs)) : SlC f s w a xs :=
  fun j x hj k v hk => ownC_cell hf hs h hj (by rw [← hf x]; exact get_lt hk) hk
structure Fw where
  la : Option Addr
  lc : Nat
  lk : List Int
  bd : Bool
  dm : Rq
instance : Inhabited Rq := ⟨⟨0, 0⟩⟩
instance : Inhabited Fw := ⟨⟨none, 0, [], false, default⟩⟩
def rC (r : Rq) : List Value := [.int .i64 r.n, .int .i64 r.d]
def fC (f : Fw) : List Value := [.slice f.la f.lk.length f.lc, .bool f.bd, .int .i64 f.dm.n, .int .i64 f.dm.d]
theorem rC_len (r : Rq) : (rC r).length = 2 := rfl
theorem fC_len (f : Fw) : (fC f).length = 4 := rfl
theorem SlC.r {w : World} {a : Option Addr} {xs : List Rq} (h : SlC rC 2 w a xs) {k : Nat} (hk : k < xs.length) :
    ∃ x, Hid (xs[k]? = some x) ∧ okAd a = true ∧ w.cell? (adr a (k * 2)) = some (.int .i64 x.n) ∧ w.cell? (adr a (k * 2 + 1)) = some (.int .i64 x.d) := by
  have e : xs[k]? = some xs[k] := by simp [hk]
  have h0 := h k _ e 0 _ rfl
  exact ⟨xs[k], e, h0.1, h0.2, (h k _ e 1 _ rfl).2⟩
theorem SlC.f {w : World} {a : Option Addr} {xs : List Fw} (h : SlC fC 4 w a xs) {k : Nat} (hk : k < xs.length) :
    ∃ x : Fw, Hid (xs[k]? = some x) ∧ okAd a = true ∧ w.cell? (adr a (k * 4)) = some (.slice x.la x.lk.length x.lc) ∧ w.cell? (adr a (k * 4 + 1)) = some (.bool x.bd) ∧ w.cell? (adr a (k * 4 + 2)) = some (.int .i64 x.dm.n) ∧ w.cell? (adr a (k * 4 + 3)) = some (.int .i64 x.dm.d) := by
  have e : xs[k]? = some xs[k] := by simp [hk]
  have h0 := h k _ e 0 _ rfl
  exact ⟨xs[k], e, h0.1, h0.2, (h k _ e 1 _ rfl).2, (h k _ e 2 _ rfl).2, (h k _ e 3 _ rfl).2⟩
structure NetAt (w : World) (ca fa : Option Addr) (caps : List Rq) (fls : List Fw) : Prop where
  c : SlC rC 2 w ca caps
  f : SlC fC 4 w fa fls
  l : ∀ x ∈ fls, SlI w (Fw.la x) x.lk
  k : ∀ x ∈ fls, (Fw.lk x).length ≤ x.lc
theorem NetAt.below {w w' : World} {ca fa : Option Addr} {caps : List Rq} {fls : List Fw} (h : NetAt w ca fa caps fls) (q : Below w.heap.size w w') : NetAt w' ca fa caps fls :=
  ⟨h.c.below q, h.f.below q, fun x hx => (h.l x hx).below q, h.k⟩
def netV (ca fa : Option Addr) (cc fc : Nat) (caps : List Rq) (fls : List Fw) : Value := .agg #[.slice ca caps.length cc, .slice fa fls.length fc]
def I64 (x : Int) : Prop := -9223372036854775808 ≤ x ∧ x ≤ 9223372036854775807
def capB (c : Rq) : Bool := c.ok && decide (0 ≤ c.n) && decide (c.cmp ⟨1000, 1⟩ ≤ 0)
def lkAt (m : Nat) (lk : List Int) (i : Nat) : Bool := decide (0 ≤ lk.getD i 0) && decide (lk.getD i 0 < m) && !decide (lk.getD i 0 ∈ lk.take i)
def dmB (f : Fw) : Bool := f.dm.ok && decide (0 ≤ f.dm.n) && (f.bd || decide (f.dm.n = 0))
def flB (m : Nat) (f : Fw) : Bool := decide (f.lk ≠ []) && (List.range f.lk.length).all (lkAt m f.lk) && dmB f
def netB (caps : List Rq) (fls : List Fw) : Bool := caps.all capB && fls.all (flB caps.length)
theorem fl_links_bad {m : Nat} {f : Fw} {i : Nat} (hi : i < f.lk.length) (h : lkAt m f.lk i = false) : flB m f = false := by
  unfold flB
  rw [List.all_eq_false.2 ⟨i, List.mem_range.2 hi, by simp [h]⟩]
  simp
theorem lk_step {m : Nat} {lk : List Int} {i : Nat} (h : (List.range i).all (lkAt m lk) = true) (hi : lkAt m lk i = true) : (List.range (i + 1)).all (lkAt m lk) = true := by
  rw [List.range_succ, List.all_append, h]; simp [hi]
theorem all_bad {α : Type} {p : α → Bool} {l : List α} {k : Nat} {x : α} (h : l[k]? = some x) (hp : p x = false) : l.all p = false := by
  rw [List.all_eq_false]
  exact ⟨x, List.mem_of_getElem? h, by simp [hp]⟩
theorem all_step {α : Type} {p : α → Bool} {l : List α} {k : Nat} {x : α} (h : (l.take k).all p = true) (hx : l[k]? = some x) (hp : p x = true) : (l.take (k + 1)).all p = true := by
  rw [List.take_add_one, List.all_append, h, hx]
  simp [hp]
end Go.Proofs.Ytbdaehcngmhhcaa
