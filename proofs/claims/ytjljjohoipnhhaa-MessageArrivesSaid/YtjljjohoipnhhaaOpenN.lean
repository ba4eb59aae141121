/-
  Slices of operations that came in: their data are bytes.
-/
import Derived.Test.YtjljjohoipnhhaaOpenM
import Derived.Test.YtjljjohoipnhhaaGateO
namespace Go.Proofs.Ytjljjohoipnhhaa
open Go.RowKit Go.ChangeShapes Go.WideShapes Go.ChangeAt
set_option linter.unusedVariables false

theorem opb_open {H : Type} {enc : TypeId × Value → H} {w : World} {held : Bool} {v : Value} {d : DataW H} {ps : List MemPlace}
    (h : DataW.Trod enc Try.prog w 0 (fun _ => true) held 33 v d ps) (hv0 : Value.okWide Try.prog w .any 0 33 v) :
    ∃ a c xs, v = .slice a xs.length c ∧ SlOp w a xs ∧ (∀ x ∈ xs, OpOk w x ∧ IsB x.data) ∧ xs.length ≤ maxLen := by
  obtain ⟨fuel, hf⟩ := h
  obtain ⟨a0, n0, c0, rfl⟩ := okWide_slice Try.underlying33 hv0
  have hs := Try.underlying37
  have hc : Try.prog.cellsOf 37 = 4 := by kernel_rfl
  have q1 : Try.prog.cellsOf 3 = 1 := by kernel_rfl
  have q2 : Try.prog.cellsOf 22 = 1 := by kernel_rfl
  have q3 : Try.prog.cellsOf 5 = 1 := by kernel_rfl
  rcases Deep.open_slice Try.underlying33 hf with ⟨e1, _⟩ | ⟨a, len, cap, m, n, D, Pl, e1, hb, hl, hm, hmm, _, hx⟩
  · refine ⟨none, 0, [], by simpa [Value.cells] using e1, ?_, by simp, by simp⟩
    intro j x hj
    simp at hj
  · simp only [if_true] at hmm
    subst hmm
    rw [hc] at hx
    obtain ⟨B, hB⟩ := Deep.choose_lt (α := OpM) (n := m) (p := fun i y => w.cell? (a.add (i * 4)) = some (.int .i64 y.kind) ∧ w.cell? ((a.add (i * 4)).add 1) = some (.int .i64 y.n) ∧ w.cell? ((a.add (i * 4)).add 2) = some (.int .i64 y.ticks) ∧ w.cell? ((a.add (i * 4)).add 3) = some y.dv ∧ OpOk w y ∧ IsB y.data) (fun i hi => by
      obtain ⟨cs', g1, g2⟩ := hx i hi
      obtain ⟨_, hlen, hcell⟩ := World.cells?_some g1
      obtain ⟨y0, y1, y2, y3, n', _, k0, k1, k2, k3⟩ := trod_struct4 hs g2
      match cs', hlen with
      | [u0, u1, u2, u3], _ =>
        have k0' : DataW.trod enc Try.prog w 0 (fun _ => true) held n' 3 [u0] = some y0 := by
          have := k0; rw [q1] at this; exact this
        have k1' : DataW.trod enc Try.prog w 0 (fun _ => true) held n' 3 [u1] = some y1 := by
          have := k1; rw [q1] at this; exact this
        have k2' : DataW.trod enc Try.prog w 0 (fun _ => true) held n' 3 [u2] = some y2 := by
          have := k2; rw [q1] at this; exact this
        have k3' : DataW.trod enc Try.prog w 0 (fun _ => true) held n' 22 [u3] = some y3 := by
          have := k3; rw [q2] at this; exact this
        obtain ⟨m0, r0, _, j0⟩ := DataW.trod_int Try.underlying3 k0'
        obtain ⟨m1, r1, _, j1⟩ := DataW.trod_int Try.underlying3 k1'
        obtain ⟨m2, r2, _, j2⟩ := DataW.trod_int Try.underlying3 k2'
        obtain ⟨da, dc, data, rfl, s1, gb, l1⟩ := sl_open (Value.int .u8) (IntOk .u8) Try.underlying22 q3 (fun n V r hr => by
          obtain ⟨i, h1, _, h3⟩ := DataW.trod_int Try.underlying5 hr
          exact ⟨i, by simpa using h1, h3⟩) k3'
        simp at r0 r1 r2
        subst r0 r1 r2
        have z0 := hcell 0 (by omega)
        have z1 := hcell 1 (by omega)
        have z2 := hcell 2 (by omega)
        have z3 := hcell 3 (by omega)
        exact ⟨⟨m0, m1, m2, da, dc, data⟩, by simpa [Addr.add] using z0, by simpa using z1, by simpa using z2, by simpa [OpM.dv] using z3, ⟨s1, l1, j1, j0, j2⟩, fun y hy => by simpa [Lit.wf, IntOk, IntKind.min, IntKind.max, IntKind.signed, IntKind.bits] using gb y hy⟩)
    refine ⟨some a, m, (List.range len).map B, by simpa [Value.cells] using e1, ?_, ?_, by simp; omega⟩
    · intro j y hj
      simp only [List.getElem?_map] at hj
      obtain ⟨i, hi, rfl⟩ := Option.map_eq_some_iff.1 hj
      have hlt : j < len := by
        rcases Nat.lt_or_ge j len with h | h
        · exact h
        · rw [List.getElem?_eq_none (by simpa using h)] at hi; simp at hi
      rw [List.getElem?_range hlt] at hi
      obtain rfl := Option.some.inj hi
      have hsp : a.spot.isNone = true := by
        have h0 := (hB 0 (by omega)).1
        have : a.spot = none := by simpa [Addr.add] using World.cell?_spot h0
        simp [this]
      obtain ⟨b0, b1, b2, b3, _⟩ := hB j (by omega)
      have ea : ∀ j, a.add j = adr (some a) j := fun j => add_eq a j hsp
      rw [ea] at b0
      rw [ea, adr_add] at b1 b2 b3
      exact ⟨hsp, b0, b1, b2, b3⟩
    · intro y hy
      obtain ⟨i, hi, rfl⟩ := List.mem_map.1 hy
      exact (hB i (by have := List.mem_range.1 hi; omega)).2.2.2.2

end Go.Proofs.Ytjljjohoipnhhaa
