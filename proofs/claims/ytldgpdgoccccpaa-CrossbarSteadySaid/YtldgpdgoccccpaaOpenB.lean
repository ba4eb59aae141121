/-
  A slice of requests among the arguments.
-/
import Derived.Test.YtldgpdgoccccpaaAwake
namespace Go.Proofs.Ytldgpdgoccccpaa
open Go.RowKit Go.ChangeShapes Go.WideShapes Go.ChangeAt

section
variable {H : Type} {enc : TypeId × Value → H} {P : Program} {w : World} {held : Bool}
theorem bool_rows3_open {t e q s : TypeId} {v : Value} {d : DataW H} {ps : List MemPlace} (ht : P.underlying t = some (.slice e)) (he : P.underlying e = some (.slice q)) (hq : P.underlying q = some (.slice s)) (hs : P.underlying s = some .bool) (hc : P.cellsOf e = 1) (hc' : P.cellsOf q = 1) (hc'' : P.cellsOf s = 1)
    (h : DataW.Trod enc P w 0 (fun _ => true) held t v d ps) (hv : ∃ a n c, v = .slice a n c) :
    ∃ a c xs, v = .slice a xs.length c ∧ Sl RowOf.val w a xs ∧ (∀ r ∈ xs, Sl RowOf.val w (RowOf.a r) r.xs ∧ (∀ l ∈ r.xs, Sl Value.bool w (RowOf.a l) l.xs ∧ (∀ y ∈ l.xs, True) ∧ l.xs.length ≤ maxLen) ∧ r.xs.length ≤ maxLen) ∧ xs.length ≤ maxLen :=
  rows_open (f := RowOf.val) (Q := fun l => Sl Value.bool w (RowOf.a l) l.xs ∧ (∀ y ∈ l.xs, True) ∧ l.xs.length ≤ maxLen) ht hc (fun n V r hr0 => by
    refine sl_open RowOf.val (fun l => Sl Value.bool w (RowOf.a l) l.xs ∧ (∀ y ∈ l.xs, True) ∧ l.xs.length ≤ maxLen) he hc' (fun n V r hr => ?_) hr0
    obtain ⟨a, c, xs, h1, h2, h3, h4⟩ := sl_open Value.bool (fun _ => True) hq hc'' (fun n V r hr => by
      obtain ⟨i, h1, _⟩ := DataW.trod_bool hs hr
      exact ⟨i, by simpa using h1, trivial⟩) hr
    exact ⟨⟨a, c, xs⟩, h1, h2, h3, h4⟩) h hv
end
theorem req_of {w : World} {a : Option Addr} {xs : List (RowOf Bool)} (s : Sl RowOf.val w a xs) (g : ∀ r ∈ xs, Sl Value.bool w (RowOf.a r) r.xs ∧ (∀ y ∈ r.xs, True) ∧ r.xs.length ≤ maxLen) (m : xs.length ≤ maxLen) : Req w a xs ∧ Lens xs :=
  ⟨⟨s, fun r hr => (g r hr).1⟩, m, fun r hr => (g r hr).2.2⟩
theorem reqs_of {w : World} {a : Option Addr} {xs : List (RowOf (RowOf Bool))} (s : Sl RowOf.val w a xs) (g : ∀ r ∈ xs, Sl RowOf.val w (RowOf.a r) r.xs ∧ (∀ l ∈ r.xs, Sl Value.bool w (RowOf.a l) l.xs ∧ (∀ y ∈ l.xs, True) ∧ l.xs.length ≤ maxLen) ∧ r.xs.length ≤ maxLen) : Reqs w a xs ∧ ∀ l ∈ xs, Lens l.xs :=
  ⟨⟨s, fun l hl => (req_of (g l hl).1 (g l hl).2.1 (g l hl).2.2).1⟩, fun l hl => (req_of (g l hl).1 (g l hl).2.1 (g l hl).2.2).2⟩
end Go.Proofs.Ytldgpdgoccccpaa
