/-
  Slices of structs of three integers that came in.
-/
import Derived.Test.YtbdaehcngmhhcaaOpen
import Derived.Deep.Strs
namespace Go.Proofs.Ytbdaehcngmhhcaa
open Go.RowKit Go.ChangeShapes Go.WideShapes Go.ChangeAt

structure I3 where
  a : Int
  b : Int
  c : Int
  deriving Inhabited

/-- Slice address a leads to the structs of xs, three cells each. -/
def Sl3 (w : World) (a : Option Addr) (xs : List I3) : Prop :=
  ∀ j x, xs[j]? = some x → okAd a = true ∧ w.cell? (adr a (j * 3)) = some (.int .i64 x.a) ∧ w.cell? (adr a (j * 3 + 1)) = some (.int .i64 x.b) ∧ w.cell? (adr a (j * 3 + 2)) = some (.int .i64 x.c)

@[go_sem] theorem adr_add (a : Option Addr) (j i : Nat) : (adr a j).add i = adr a (j + i) := by
  unfold adr Addr.add
  split
  · rename_i h; subst h; rfl
  · simp [Nat.add_assoc]

@[go_sem] theorem adr_fold (a : Option Addr) (j i : Nat) : (⟨(adr a j).block, (adr a j).off + i, none⟩ : Addr) = adr a (j + i) := by
  simp [adr, Nat.add_assoc]

def cap0 (n : Nat) : Nat := n
theorem Sl3.get {w : World} {a : Option Addr} {xs : List I3} (h : Sl3 w a xs) {k : Nat} (hk : k < xs.length) :
    ∃ x, Hid (xs[k]? = some x) ∧ okAd a = true ∧ w.cell? (adr a (k * 3)) = some (.int .i64 x.a) ∧ w.cell? (adr a (k * 3 + 1)) = some (.int .i64 x.b) ∧ w.cell? (adr a (k * 3 + 2)) = some (.int .i64 x.c) :=
  ⟨xs[k], by show xs[k]? = some xs[k]; simp [hk], h k _ (by simp [hk])⟩
theorem Sl3.below {w w' : World} {a : Option Addr} {xs : List I3} (h : Sl3 w a xs) (q : Below w.heap.size w w') : Sl3 w' a xs := by
  intro j x hj
  obtain ⟨h1, h2, h3, h4⟩ := h j x hj
  refine ⟨h1, ?_, ?_, ?_⟩
  · rw [q.cell (World.block_lt_of_cell? _ _ h2)]; exact h2
  · rw [q.cell (World.block_lt_of_cell? _ _ h3)]; exact h3
  · rw [q.cell (World.block_lt_of_cell? _ _ h4)]; exact h4
theorem Sl3.old {w : World} {a : Option Addr} {xs : List I3} (h : Sl3 w a xs) (hx : xs ≠ []) : (a.getD default).block < w.heap.size := by
  match xs, hx with
  | x :: l, _ => exact World.block_lt_of_cell? w (adr a (0 * 3)) (h 0 x rfl).2.1

section
variable {H : Type} {enc : TypeId × Value → H} {P : Program} {w : World} {held : Bool}
theorem i3_open {t e : TypeId} {f0 f1 f2 : Field} {v : Value} {d : DataW H} {ps : List MemPlace} (ht : P.underlying t = some (.slice e)) (hs : P.underlying e = some (.struct #[f0, f1, f2]))
    (o0 : f0.offset = 0) (o1 : f1.offset = 1) (o2 : f2.offset = 2) (h1 : P.underlying f0.type = some (.int .i64)) (h2 : P.underlying f1.type = some (.int .i64)) (h3 : P.underlying f2.type = some (.int .i64))
    (hc : P.cellsOf e = 3) (c1 : P.cellsOf f0.type = 1) (c2 : P.cellsOf f1.type = 1) (c3 : P.cellsOf f2.type = 1)
    (h : DataW.Trod enc P w 0 (fun _ => true) held t v d ps) (hv : ∃ a n c, v = .slice a n c) :
    ∃ a c xs, v = .slice a xs.length c ∧ Sl3 w a xs ∧ (∀ x ∈ xs, IntOk .i64 (I3.a x) ∧ IntOk .i64 x.b ∧ IntOk .i64 x.c) ∧ xs.length ≤ maxLen := by
  obtain ⟨fuel, hf⟩ := h
  obtain ⟨a0, n0, c0, rfl⟩ := hv
  rcases Deep.open_slice ht hf with ⟨e1, _⟩ | ⟨a, len, cap, m, n, D, Pl, e1, hb, hl, hm, hmm, _, hx⟩
  · refine ⟨none, 0, [], by simpa [Value.cells] using e1, ?_, by simp, by simp⟩
    intro j x hj
    simp at hj
  · simp only [if_true] at hmm
    subst hmm
    rw [hc] at hx
    obtain ⟨B, hB⟩ := Deep.choose_lt (α := I3) (n := m) (p := fun i y => w.cell? (a.add (i * 3)) = some (.int .i64 y.a) ∧ w.cell? ((a.add (i * 3)).add 1) = some (.int .i64 y.b) ∧ w.cell? ((a.add (i * 3)).add 2) = some (.int .i64 y.c) ∧ IntOk .i64 y.a ∧ IntOk .i64 y.b ∧ IntOk .i64 y.c) (fun i hi => by
      obtain ⟨cs', g1, g2⟩ := hx i hi
      obtain ⟨_, hlen, hcell⟩ := World.cells?_some g1
      obtain ⟨y0, y1, y2, n', _, _, k0, k1, k2⟩ := Deep.trod_struct3 hs g2
      rw [o0, c1] at k0
      rw [o1, c2] at k1
      rw [o2, c3] at k2
      match cs', hlen with
      | [u0, u1, u2], _ =>
        obtain ⟨m0, q0, _, w0⟩ := DataW.trod_int h1 k0
        obtain ⟨m1, q1, _, w1⟩ := DataW.trod_int h2 k1
        obtain ⟨m2, q2, _, w2⟩ := DataW.trod_int h3 k2
        simp at q0 q1 q2
        subst q0 q1 q2
        have z0 := hcell 0 (by omega)
        have z1 := hcell 1 (by omega)
        have z2 := hcell 2 (by omega)
        exact ⟨⟨m0, m1, m2⟩, by simpa [Addr.add] using z0, by simpa using z1, by simpa using z2, w0, w1, w2⟩)
    refine ⟨some a, cap0 m, (List.range len).map B, by simpa [Value.cells, cap0] using e1, ?_, ?_, by simp; omega⟩
    · intro j y hj
      simp only [List.getElem?_map] at hj
      obtain ⟨i, hi, rfl⟩ := Option.map_eq_some_iff.1 hj
      have hlt : j < len := by
        rcases Nat.lt_or_ge j len with h | h
        · exact h
        · rw [List.getElem?_eq_none (by simpa using h)] at hi; simp at hi
      rw [List.getElem?_range hlt] at hi
      obtain rfl := Option.some.inj hi
      have hsp : a.spot.isNone = true := by
        have h0 := (hB 0 (by omega)).1
        have : a.spot = none := by simpa [Addr.add] using World.cell?_spot h0
        simp [this]
      obtain ⟨b0, b1, b2, _⟩ := hB j (by omega)
      have ea : ∀ j, a.add j = adr (some a) j := fun j => add_eq a j hsp
      rw [ea] at b0
      rw [ea, adr_add] at b1 b2
      exact ⟨hsp, b0, b1, b2⟩
    · intro y hy
      obtain ⟨i, hi, rfl⟩ := List.mem_map.1 hy
      obtain ⟨_, _, _, b3, b4, b5⟩ := hB i (by have := List.mem_range.1 hi; omega)
      exact ⟨b3, b4, b5⟩
end
end Go.Proofs.Ytbdaehcngmhhcaa
