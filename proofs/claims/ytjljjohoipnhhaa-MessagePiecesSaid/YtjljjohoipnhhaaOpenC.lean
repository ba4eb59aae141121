/-
  A slice of ints that came in, with its capacity.
-/
import Derived.Test.YtjljjohoipnhhaaOpen
namespace Go.Proofs.Ytjljjohoipnhhaa
open Go.RowKit Go.ChangeShapes Go.WideShapes Go.ChangeAt
section
variable {H : Type} {enc : TypeId × Value → H} {P : Program} {w : World} {held : Bool}
theorem sl_cap {t e : TypeId} {fuel : Nat} {a : Option Addr} {n c : Nat} {x : DataW H × List MemPlace} (ht : P.underlying t = some (.slice e)) (hc : P.cellsOf e = 1)
    (h : DataW.trod enc P w 0 (fun _ => true) held fuel t [.slice a n c] = some x) : n ≤ c ∧ c ≤ maxLen := by
  rcases Deep.open_slice1 ht hc h with ⟨h1, _⟩ | ⟨a', len, cap, m, n', V, D, Pl, h1, hb, hl, hm, _⟩
  · simp at h1
    omega
  · simp at h1
    omega
theorem ints_openC {t e : TypeId} {k : IntKind} {v : Value} {d : DataW H} {ps : List MemPlace} (ht : P.underlying t = some (.slice e)) (he : P.underlying e = some (.int k)) (hc : P.cellsOf e = 1)
    (h : DataW.Trod enc P w 0 (fun _ => true) held t v d ps) (hv : ∃ a n c, v = .slice a n c) :
    ∃ a c xs, v = .slice a xs.length c ∧ Sl (Value.int k) w a xs ∧ (∀ y ∈ xs, IntOk k y) ∧ xs.length ≤ c ∧ c ≤ maxLen := by
  obtain ⟨a, c, xs, rfl, h1, h2, h3⟩ := ints_open ht he hc h hv
  obtain ⟨fuel, hf⟩ := h
  have : DataW.trod enc P w 0 (fun _ => true) held fuel t [.slice a xs.length c] = some (d, ps) := by simpa [Value.cells] using hf
  exact ⟨a, c, xs, rfl, h1, h2, sl_cap ht hc this⟩
end
end Go.Proofs.Ytjljjohoipnhhaa
