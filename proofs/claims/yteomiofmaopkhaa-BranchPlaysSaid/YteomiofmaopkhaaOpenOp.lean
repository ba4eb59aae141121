/-
  Slices of operations that came in; the limits of the statements.
-/
import Derived.Test.YteomiofmaopkhaaAwake
import Derived.Test.YteomiofmaopkhaaOpen
import Derived.Deep.Strs
namespace Go.Proofs.Yteomiofmaopkhaa
open Go.RowKit Go.ChangeShapes Go.WideShapes Go.ChangeAt
set_option linter.unusedVariables false

structure OpR where
  id : Int
  oa : Option Addr
  oc : Nat
  outs : List Int
  ra : Option Addr
  rc : Nat
  rdy : List Bool
  deriving Inhabited
def OpR.v1 (x : OpR) : Value := .slice x.oa x.outs.length x.oc
def OpR.v2 (x : OpR) : Value := .slice x.ra x.rdy.length x.rc
def SlOp (w : World) (a : Option Addr) (xs : List OpR) : Prop :=
  ∀ (j : Nat) (x : OpR), xs[j]? = some x → okAd a = true ∧ w.cell? (adr a (j * 3)) = some (.int .i64 x.id) ∧ w.cell? (adr a (j * 3 + 1)) = some x.v1 ∧ w.cell? (adr a (j * 3 + 2)) = some x.v2
def OpOk (w : World) (x : OpR) : Prop := SlI w x.oa x.outs ∧ x.outs.length ≤ maxLen ∧ SlB w x.ra x.rdy ∧ x.rdy.length ≤ maxLen
theorem SlOp.get {w : World} {a : Option Addr} {xs : List OpR} (h : SlOp w a xs) {k : Nat} (hk : k < xs.length) :
    ∃ x, Hid (xs[k]? = some x) ∧ okAd a = true ∧ w.cell? (adr a (k * 3)) = some (.int .i64 x.id) ∧ w.cell? (adr a (k * 3 + 1)) = some (.slice x.oa x.outs.length x.oc) ∧ w.cell? (adr a (k * 3 + 2)) = some (.slice x.ra x.rdy.length x.rc) :=
  ⟨xs[k], by show xs[k]? = some xs[k]; simp [hk], h k _ (by simp [hk])⟩
theorem SlOp.below {w w' : World} {a : Option Addr} {xs : List OpR} (h : SlOp w a xs) (q : Below w.heap.size w w') : SlOp w' a xs := by
  intro j x hj
  obtain ⟨h1, h2, h3, h4⟩ := h j x hj
  refine ⟨h1, ?_, ?_, ?_⟩
  · rw [q.cell (World.block_lt_of_cell? _ _ h2)]; exact h2
  · rw [q.cell (World.block_lt_of_cell? _ _ h3)]; exact h3
  · rw [q.cell (World.block_lt_of_cell? _ _ h4)]; exact h4
theorem OpOk.below {w w' : World} {x : OpR} (h : OpOk w x) (q : Below w.heap.size w w') : OpOk w' x := ⟨h.1.below q, h.2.1, h.2.2.1.below q, h.2.2.2⟩

theorem op_open {H : Type} {enc : TypeId × Value → H} {w : World} {held : Bool} {v : Value} {d : DataW H} {ps : List MemPlace}
    (h : DataW.Trod enc Try.prog w 0 (fun _ => true) held 22 v d ps) (hv0 : Value.okWide Try.prog w .any 0 22 v) :
    ∃ a c xs, v = .slice a xs.length c ∧ SlOp w a xs ∧ (∀ x ∈ xs, OpOk w x) ∧ xs.length ≤ maxLen := by
  obtain ⟨fuel, hf⟩ := h
  obtain ⟨a0, n0, c0, rfl⟩ := okWide_slice Try.underlying22 hv0
  have hs := Try.underlying28
  have hc : Try.prog.cellsOf 28 = 3 := by kernel_rfl
  have q1 : Try.prog.cellsOf 3 = 1 := by kernel_rfl
  have q2 : Try.prog.cellsOf 26 = 1 := by kernel_rfl
  have q3 : Try.prog.cellsOf 23 = 1 := by kernel_rfl
  have q4 : Try.prog.cellsOf 4 = 1 := by kernel_rfl
  rcases Deep.open_slice Try.underlying22 hf with ⟨e1, _⟩ | ⟨a, len, cap, m, n, D, Pl, e1, hb, hl, hm, hmm, _, hx⟩
  · refine ⟨none, 0, [], by simpa [Value.cells] using e1, ?_, by simp, by simp⟩
    intro j x hj
    simp at hj
  · simp only [if_true] at hmm
    subst hmm
    rw [hc] at hx
    obtain ⟨B, hB⟩ := Deep.choose_lt (α := OpR) (n := m) (p := fun i y => w.cell? (a.add (i * 3)) = some (.int .i64 y.id) ∧ w.cell? ((a.add (i * 3)).add 1) = some y.v1 ∧ w.cell? ((a.add (i * 3)).add 2) = some y.v2 ∧ OpOk w y) (fun i hi => by
      obtain ⟨cs', g1, g2⟩ := hx i hi
      obtain ⟨_, hlen, hcell⟩ := World.cells?_some g1
      obtain ⟨y0, y1, y2, n', _, _, k0, k1, k2⟩ := Deep.trod_struct3 hs g2
      match cs', hlen with
      | [u0, u1, u2], _ =>
        have k0' : DataW.trod enc Try.prog w 0 (fun _ => true) held n' 3 [u0] = some y0 := by
          have := k0; rw [q1] at this; exact this
        have k1' : DataW.trod enc Try.prog w 0 (fun _ => true) held n' 26 [u1] = some y1 := by
          have := k1; rw [q2] at this; exact this
        have k2' : DataW.trod enc Try.prog w 0 (fun _ => true) held n' 23 [u2] = some y2 := by
          have := k2; rw [q3] at this; exact this
        obtain ⟨m0, r0, _, _⟩ := DataW.trod_int Try.underlying3 k0'
        obtain ⟨oa, oc, outs, rfl, s1, _, l1⟩ := sl_open (Value.int .i64) (fun _ => True) Try.underlying26 q1 (fun n V r hr => by
          obtain ⟨i, h1, _, _⟩ := DataW.trod_int Try.underlying3 hr
          exact ⟨i, by simpa using h1, trivial⟩) k1'
        obtain ⟨ra, rc, rdy, rfl, s2, _, l2⟩ := sl_open Value.bool (fun _ => True) Try.underlying23 q4 (fun n V r hr => by
          obtain ⟨i, h1, _⟩ := DataW.trod_bool Try.underlying4 hr
          exact ⟨i, by simpa using h1, trivial⟩) k2'
        simp at r0
        subst r0
        have z0 := hcell 0 (by omega)
        have z1 := hcell 1 (by omega)
        have z2 := hcell 2 (by omega)
        exact ⟨⟨m0, oa, oc, outs, ra, rc, rdy⟩, by simpa [Addr.add] using z0, by simpa [OpR.v1] using z1, by simpa [OpR.v2] using z2, s1, l1, s2, l2⟩)
    refine ⟨some a, m, (List.range len).map B, by simpa [Value.cells] using e1, ?_, ?_, by simp; omega⟩
    · intro j y hj
      simp only [List.getElem?_map] at hj
      obtain ⟨i, hi, rfl⟩ := Option.map_eq_some_iff.1 hj
      have hlt : j < len := by
        rcases Nat.lt_or_ge j len with h | h
        · exact h
        · rw [List.getElem?_eq_none (by simpa using h)] at hi; simp at hi
      rw [List.getElem?_range hlt] at hi
      obtain rfl := Option.some.inj hi
      have hsp : a.spot.isNone = true := by
        have h0 := (hB 0 (by omega)).1
        have : a.spot = none := by simpa [Addr.add] using World.cell?_spot h0
        simp [this]
      obtain ⟨b0, b1, b2, _⟩ := hB j (by omega)
      have ea : ∀ j, a.add j = adr (some a) j := fun j => add_eq a j hsp
      rw [ea] at b0
      rw [ea, adr_add] at b1 b2
      exact ⟨hsp, b0, b1, b2⟩
    · intro y hy
      obtain ⟨i, hi, rfl⟩ := List.mem_map.1 hy
      exact (hB i (by have := List.mem_range.1 hi; omega)).2.2.2

def opBig (x : OpR) : Bool := decide (12 < x.outs.length) || decide (12 < x.rdy.length)
def isGreat (xs : List OpR) : Bool := xs.any opBig || decide (200 < xs.length)
def GrPost (xs : List OpR) (w : World) (e : Ending) (w' : World) : Prop := e = .returned (.bool (isGreat xs)) ∧ Below w.heap.size w w'
def GrRel (xs : List OpR) (w : World) (i : Value) (wr : World) : Prop := ∃ k : Nat, k ≤ xs.length ∧ i = .int .i64 k ∧ (xs.take k).any opBig = false ∧ Below w.heap.size w wr

set_option maxHeartbeats 4000000 in
set_option maxRecDepth 100000 in
theorem great_any (w : World) (a : Option Addr) (c : Nat) (xs : List OpR) (hs : SlOp w a xs) (ho : ∀ x ∈ xs, OpOk w x) (hl : xs.length ≤ maxLen) :
    Calls Try.prog 16 #[.slice a xs.length c] w (GrPost xs w) := by
  have S := Lib.hid hs; have O := Lib.hid ho
  clear hs ho
  unfold maxLen at hl
  go_enter Try.func16, Try.ntmps16
  go_wp2_with fail
  go_loopw [7] (fun i wr => GrRel xs w i wr) (fun i _ => xs.length - (intOf i).toNat)
  case atStart => exact ⟨0, Nat.zero_le _, rfl, rfl, Below.refl _ _⟩
  case round =>
    obtain ⟨k, hk, rfl, hno, hB⟩ := hrel
    have HB := Lib.hid hB; have NO := Lib.hid hno
    clear hB hno
    by_cases hlt : k < xs.length
    · obtain ⟨x, ex, okx, c0, c1, c2⟩ := (S.out.below HB.out).get (k := k) hlt
      obtain ⟨_, l1, _, l2⟩ := O.out x (List.mem_of_getElem? ex.out)
      unfold maxLen at l1 l2
      have hst : Hid ((xs.take (k + 1)).any opBig = opBig x) := by
        show _ = _
        rw [List.take_add_one, ex.out, List.any_append, NO.out]
        simp
      have hsz := HB.out.size
      by_cases hb : 12 < x.outs.length ∨ (¬ 12 < x.outs.length ∧ 12 < x.rdy.length)
      · have hbig : Hid (isGreat xs = true) := by
          show _ = _
          unfold isGreat
          have : xs.any opBig = true := by
            rw [List.any_eq_true]
            refine ⟨x, List.mem_of_getElem? ex.out, ?_⟩
            unfold opBig
            rcases hb with h | ⟨_, h⟩ <;> simp [h]
          simp [this]
        rcases hb with hb | ⟨hb, hb2⟩
        all_goals
          have hbI : Hid True := trivial
          go_wp2_with fail
          go_ret
          exact ⟨by rw [hbig.out]; rfl, HB.out.alloc hsz _⟩
      · have hb1 : ¬ 12 < x.outs.length := by omega
        have hb2 : ¬ 12 < x.rdy.length := by omega
        have hsm : Hid ((xs.take (k + 1)).any opBig = false) := by show _ = _; rw [hst.out]; unfold opBig; simp [hb1, hb2]
        clear hb
        go_wp2_with fail
        go_roundw
        case rel => exact ⟨k + 1, by omega, by go_num, hsm.out, HB.out.alloc hsz _⟩
        case measure => simp [intOf]; omega
    · obtain rfl : k = xs.length := by omega
      have hres : Hid (isGreat xs = decide (200 < (xs.length : Int))) := by
        show _ = _
        have h := NO.out
        rw [List.take_length] at h
        unfold isGreat
        rw [h]
        simp
        omega
      go_wp2_with fail
      go_ret
      exact ⟨by rw [hres.out]; rfl, HB.out⟩
end Go.Proofs.Yteomiofmaopkhaa
