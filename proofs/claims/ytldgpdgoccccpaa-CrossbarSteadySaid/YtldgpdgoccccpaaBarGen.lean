/-
  Match on any requests; when a matching is maximal.
-/
import Derived.Test.YtldgpdgoccccpaaOpenB
import Derived.Test.YtldgpdgoccccpaaBarKuhn2
namespace Go.Proofs.Ytldgpdgoccccpaa
open Go.RowKit
set_option linter.unusedVariables false

theorem u8_bounds {n : Int} (h : (Lit.int .u8 n).wf = true) : 0 ≤ n ∧ n ≤ 255 := by simpa [Lit.wf, IntKind.min, IntKind.max, IntKind.signed, IntKind.bits] using h
/-- The pointers behind a matching on any requests. -/
def mst (rs : List (RowOf Bool)) (n r : Nat) (p : (Nat → Nat) × (Nat → Nat)) : (Nat → Nat) × (Nat → Nat) :=
  if sqB rs n = true then ((Bar.rounds (reqF rs) n (Bar.start p.1 p.2) r).g, (Bar.rounds (reqF rs) n (Bar.start p.1 p.2) r).a) else p
theorem mst_rg {rs : List (RowOf Bool)} {n r : Nat} {p : (Nat → Nat) × (Nat → Nat)} (h : Bar.Rg n p) : Bar.Rg n (mst rs n r p) := by
  unfold mst
  split
  · have o := Bar.rounds_ok (Bar.start_ok (req := reqF rs) h.g h.a) r
    exact ⟨o.g, o.a⟩
  · exact h
def GenPost (W : World) (cb n : Nat) (p : (Nat → Nat) × (Nat → Nat)) (e : Ending) (w : World) : Prop := ∃ v1 v2 : Value, e = .returned (.tuple #[v1, v2]) ∧ BarAt w cb n p.1 p.2 ∧ Upd (fun j => j = cb) W w
theorem match_gen (W : World) (cb n r : Nat) (p : (Nat → Nat) × (Nat → Nat)) (a0 : Option Addr) (c0 : Nat) (rs : List (RowOf Bool)) (h : BarAt W cb n p.1 p.2) (hq : Req W a0 rs) (hl : Lens rs)
    (hr1 : 1 ≤ r) (hr8 : r ≤ 8) (hn1 : 1 ≤ n) (hn8 : n ≤ 8) (hp : Bar.Rg n p) (off : Off a0 rs (fun j => j = cb)) :
    Calls Try.prog 16 #[.pointer (some ⟨cb, 0, none⟩), .slice a0 rs.length c0, .int .i64 r] W (GenPost W cb n (mst rs n r p)) := by
  cases hs : sqB rs n with
  | true =>
    refine (match_ok W cb n r p.1 p.2 a0 c0 rs h hq hl.1 hl.2 hs hr1 hr8 hn1 hn8 hp.g hp.a off).mono ?_
    rintro e w ⟨h1, h2, h3, h4⟩
    refine ⟨_, _, h1, ?_, h4⟩
    unfold mst; rw [if_pos hs]
    exact h2
  | false =>
    refine (match_arg W cb n p.1 p.2 a0 c0 rs r h hq hl.1 hl.2 hs).mono ?_
    rintro e w ⟨h1, rfl⟩
    refine ⟨_, _, h1, ?_, Upd.refl _ _⟩
    unfold mst; rw [if_neg (by rw [hs]; simp)]
    exact h

theorem msF_map (n : Nat) (m : Nat → Int) {i : Nat} (h : i < n) : msF ((List.range n).map m) i = m i := by
  refine msF_get ?_
  rw [List.getElem?_map, List.getElem?_range h]; rfl
theorem maxok_maxi {rs : List (RowOf Bool)} {s : Bar.St} (hfm : fmB rs = true) (o : Bar.Ok (reqF rs) rs.length s) : MaxOk rs ((List.range rs.length).map s.m) ↔ Bar.Maxi (reqF rs) rs.length s := by
  constructor
  · intro h i hi k hk hr
    rcases o.m i hi with h1 | ⟨q, _, h1, _⟩
    · obtain ⟨j, hj, e⟩ := h.full i hi k hk hr (by rw [msF_map _ _ hi, h1])
      rw [msF_map _ _ hj] at e
      exact .inr ((o.t k hk).2 ⟨j, hj, e⟩)
    · exact .inl (by omega)
  · intro h
    refine ⟨hfm, by simp, ⟨fun i hi => by rw [msF_map _ _ hi]; exact o.m i hi, fun i hi j hj k h1 h2 => ?_⟩, fun i hi k hk hr he => ?_⟩
    · rw [msF_map _ _ hi] at h1; rw [msF_map _ _ hj] at h2
      exact o.inj i hi j hj k h1 h2
    · rw [msF_map _ _ hi] at he
      rcases h i hi k hk hr with h1 | h1
      · omega
      · obtain ⟨j, hj, e⟩ := (o.t k hk).1 h1
        exact ⟨j, hj, by rw [msF_map _ _ hj]; exact e⟩
end Go.Proofs.Ytldgpdgoccccpaa
