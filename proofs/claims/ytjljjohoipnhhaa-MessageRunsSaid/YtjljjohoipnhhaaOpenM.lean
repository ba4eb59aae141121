/-
  Slices of operations that came in; the limits of the statements.
-/
import Derived.Test.YtjljjohoipnhhaaAwake
import Derived.Test.YtjljjohoipnhhaaOpen
import Derived.Deep.Strs
namespace Go.Proofs.Ytjljjohoipnhhaa
open Go.RowKit Go.ChangeShapes Go.WideShapes Go.ChangeAt
set_option linter.unusedVariables false

@[go_sem] theorem adr_add (a : Option Addr) (j i : Nat) : (adr a j).add i = adr a (j + i) := by
  unfold adr Addr.add
  split
  · rename_i h; subst h; rfl
  · simp [Nat.add_assoc]
@[go_sem] theorem adr_fold (a : Option Addr) (j i : Nat) : (⟨(adr a j).block, (adr a j).off + i, none⟩ : Addr) = adr a (j + i) := by
  simp [adr, Nat.add_assoc]
structure OpM where
  kind : Int
  n : Int
  ticks : Int
  da : Option Addr
  dc : Nat
  data : List Int
  deriving Inhabited
def OpM.dv (x : OpM) : Value := .slice x.da x.data.length x.dc
def SlOp (w : World) (a : Option Addr) (xs : List OpM) : Prop :=
  ∀ (j : Nat) (x : OpM), xs[j]? = some x → okAd a = true ∧ w.cell? (adr a (j * 4)) = some (.int .i64 x.kind) ∧ w.cell? (adr a (j * 4 + 1)) = some (.int .i64 x.n) ∧ w.cell? (adr a (j * 4 + 2)) = some (.int .i64 x.ticks) ∧ w.cell? (adr a (j * 4 + 3)) = some x.dv
def OpOk (w : World) (x : OpM) : Prop := Sl (Value.int .u8) w x.da x.data ∧ x.data.length ≤ maxLen ∧ IntOk .i64 x.n ∧ IntOk .i64 x.kind ∧ IntOk .i64 x.ticks
theorem SlOp.get {w : World} {a : Option Addr} {xs : List OpM} (h : SlOp w a xs) {k : Nat} (hk : k < xs.length) :
    ∃ x, Hid (xs[k]? = some x) ∧ okAd a = true ∧ w.cell? (adr a (k * 4)) = some (.int .i64 x.kind) ∧ w.cell? (adr a (k * 4 + 1)) = some (.int .i64 x.n) ∧ w.cell? (adr a (k * 4 + 2)) = some (.int .i64 x.ticks) ∧ w.cell? (adr a (k * 4 + 3)) = some (.slice x.da x.data.length x.dc) :=
  ⟨xs[k], by show xs[k]? = some xs[k]; simp [hk], h k _ (by simp [hk])⟩
theorem SlOp.below {w w' : World} {a : Option Addr} {xs : List OpM} (h : SlOp w a xs) (q : Below w.heap.size w w') : SlOp w' a xs := by
  intro j x hj
  obtain ⟨h1, h2, h3, h4, h5⟩ := h j x hj
  refine ⟨h1, ?_, ?_, ?_, ?_⟩
  · rw [q.cell (World.block_lt_of_cell? _ _ h2)]; exact h2
  · rw [q.cell (World.block_lt_of_cell? _ _ h3)]; exact h3
  · rw [q.cell (World.block_lt_of_cell? _ _ h4)]; exact h4
  · rw [q.cell (World.block_lt_of_cell? _ _ h5)]; exact h5
theorem OpOk.below {w w' : World} {x : OpM} (h : OpOk w x) (q : Below w.heap.size w w') : OpOk w' x := ⟨h.1.below q, h.2⟩

section
variable {H : Type} {enc : TypeId × Value → H} {P : Program} {w : World} {base : Nat} {spare : Nat → Bool} {held : Bool}
theorem trod_struct4 {t : TypeId} {f0 f1 f2 f3 : Field} {fuel : Nat} {cs : List Value} {x : DataW H × List MemPlace} (ht : P.underlying t = some (.struct #[f0, f1, f2, f3])) (h : DataW.trod enc P w 0 (fun _ => true) held fuel t cs = some x) :
    ∃ y0 y1 y2 y3 n, cs.length = P.cellsOf t ∧ DataW.trod enc P w 0 (fun _ => true) held n f0.type ((cs.drop f0.offset).take (P.cellsOf f0.type)) = some y0 ∧
      DataW.trod enc P w 0 (fun _ => true) held n f1.type ((cs.drop f1.offset).take (P.cellsOf f1.type)) = some y1 ∧ DataW.trod enc P w 0 (fun _ => true) held n f2.type ((cs.drop f2.offset).take (P.cellsOf f2.type)) = some y2 ∧
      DataW.trod enc P w 0 (fun _ => true) held n f3.type ((cs.drop f3.offset).take (P.cellsOf f3.type)) = some y3 := by
  obtain ⟨xs, n, _, rfl, hl, hlen, hf⟩ := DataW.trod_struct ht h
  match xs, hlen with
  | [y0, y1, y2, y3], _ => exact ⟨y0, y1, y2, y3, n, hl, by simpa using hf 0 f0 rfl, by simpa using hf 1 f1 rfl, by simpa using hf 2 f2 rfl, by simpa using hf 3 f3 rfl⟩
end
theorem op_open {H : Type} {enc : TypeId × Value → H} {w : World} {held : Bool} {v : Value} {d : DataW H} {ps : List MemPlace}
    (h : DataW.Trod enc Try.prog w 0 (fun _ => true) held 33 v d ps) (hv0 : Value.okWide Try.prog w .any 0 33 v) :
    ∃ a c xs, v = .slice a xs.length c ∧ SlOp w a xs ∧ (∀ x ∈ xs, OpOk w x) ∧ xs.length ≤ maxLen := by
  obtain ⟨fuel, hf⟩ := h
  obtain ⟨a0, n0, c0, rfl⟩ := okWide_slice Try.underlying33 hv0
  have hs := Try.underlying37
  have hc : Try.prog.cellsOf 37 = 4 := by kernel_rfl
  have q1 : Try.prog.cellsOf 3 = 1 := by kernel_rfl
  have q2 : Try.prog.cellsOf 22 = 1 := by kernel_rfl
  have q3 : Try.prog.cellsOf 5 = 1 := by kernel_rfl
  rcases Deep.open_slice Try.underlying33 hf with ⟨e1, _⟩ | ⟨a, len, cap, m, n, D, Pl, e1, hb, hl, hm, hmm, _, hx⟩
  · refine ⟨none, 0, [], by simpa [Value.cells] using e1, ?_, by simp, by simp⟩
    intro j x hj
    simp at hj
  · simp only [if_true] at hmm
    subst hmm
    rw [hc] at hx
    obtain ⟨B, hB⟩ := Deep.choose_lt (α := OpM) (n := m) (p := fun i y => w.cell? (a.add (i * 4)) = some (.int .i64 y.kind) ∧ w.cell? ((a.add (i * 4)).add 1) = some (.int .i64 y.n) ∧ w.cell? ((a.add (i * 4)).add 2) = some (.int .i64 y.ticks) ∧ w.cell? ((a.add (i * 4)).add 3) = some y.dv ∧ OpOk w y) (fun i hi => by
      obtain ⟨cs', g1, g2⟩ := hx i hi
      obtain ⟨_, hlen, hcell⟩ := World.cells?_some g1
      obtain ⟨y0, y1, y2, y3, n', _, k0, k1, k2, k3⟩ := trod_struct4 hs g2
      match cs', hlen with
      | [u0, u1, u2, u3], _ =>
        have k0' : DataW.trod enc Try.prog w 0 (fun _ => true) held n' 3 [u0] = some y0 := by
          have := k0; rw [q1] at this; exact this
        have k1' : DataW.trod enc Try.prog w 0 (fun _ => true) held n' 3 [u1] = some y1 := by
          have := k1; rw [q1] at this; exact this
        have k2' : DataW.trod enc Try.prog w 0 (fun _ => true) held n' 3 [u2] = some y2 := by
          have := k2; rw [q1] at this; exact this
        have k3' : DataW.trod enc Try.prog w 0 (fun _ => true) held n' 22 [u3] = some y3 := by
          have := k3; rw [q2] at this; exact this
        obtain ⟨m0, r0, _, j0⟩ := DataW.trod_int Try.underlying3 k0'
        obtain ⟨m1, r1, _, j1⟩ := DataW.trod_int Try.underlying3 k1'
        obtain ⟨m2, r2, _, j2⟩ := DataW.trod_int Try.underlying3 k2'
        obtain ⟨da, dc, data, rfl, s1, _, l1⟩ := sl_open (Value.int .u8) (fun _ => True) Try.underlying22 q3 (fun n V r hr => by
          obtain ⟨i, h1, _, _⟩ := DataW.trod_int Try.underlying5 hr
          exact ⟨i, by simpa using h1, trivial⟩) k3'
        simp at r0 r1 r2
        subst r0 r1 r2
        have z0 := hcell 0 (by omega)
        have z1 := hcell 1 (by omega)
        have z2 := hcell 2 (by omega)
        have z3 := hcell 3 (by omega)
        exact ⟨⟨m0, m1, m2, da, dc, data⟩, by simpa [Addr.add] using z0, by simpa using z1, by simpa using z2, by simpa [OpM.dv] using z3, s1, l1, j1, j0, j2⟩)
    refine ⟨some a, m, (List.range len).map B, by simpa [Value.cells] using e1, ?_, ?_, by simp; omega⟩
    · intro j y hj
      simp only [List.getElem?_map] at hj
      obtain ⟨i, hi, rfl⟩ := Option.map_eq_some_iff.1 hj
      have hlt : j < len := by
        rcases Nat.lt_or_ge j len with h | h
        · exact h
        · rw [List.getElem?_eq_none (by simpa using h)] at hi; simp at hi
      rw [List.getElem?_range hlt] at hi
      obtain rfl := Option.some.inj hi
      have hsp : a.spot.isNone = true := by
        have h0 := (hB 0 (by omega)).1
        have : a.spot = none := by simpa [Addr.add] using World.cell?_spot h0
        simp [this]
      obtain ⟨b0, b1, b2, b3, _⟩ := hB j (by omega)
      have ea : ∀ j, a.add j = adr (some a) j := fun j => add_eq a j hsp
      rw [ea] at b0
      rw [ea, adr_add] at b1 b2 b3
      exact ⟨hsp, b0, b1, b2, b3⟩
    · intro y hy
      obtain ⟨i, hi, rfl⟩ := List.mem_map.1 hy
      exact (hB i (by have := List.mem_range.1 hi; omega)).2.2.2.2

def opBad (x : OpM) : Bool := decide (1100 < x.data.length) || (decide (x.ticks < 0) || decide (1073741824 < x.ticks))
def fewB (xs : List OpM) : Bool := decide (xs.length ≤ 80) && !(xs.any opBad)
set_option maxHeartbeats 2000000 in
theorem few1_any (x : OpM) (w : World) (hl : x.data.length ≤ maxLen) :
    Calls Try.prog 35 #[.agg #[.int .i64 x.kind, .int .i64 x.n, .int .i64 x.ticks, .slice x.da x.data.length x.dc]] w fun e w' => e = .returned (.bool (opBad x)) ∧ Below w.heap.size w w' := by
  unfold maxLen at hl
  unfold opBad
  generalize x.data.length = m at *
  generalize x.ticks = t at *
  by_cases h1 : 1100 < m
  · rw [decide_eq_true h1, Bool.true_or]
    have e1 : decide ((1100 : Int) < (m : Int)) = true := by simp; omega
    clear h1
    go_enter Try.func35, Try.ntmps35
    go_wp2
    go_ret
    exact ⟨rfl, (Below.refl _ _).alloc (Nat.le_refl _) _⟩
  · rw [decide_eq_false h1, Bool.false_or]
    have e1 : decide ((1100 : Int) < (m : Int)) = false := by simp; omega
    clear h1
    by_cases h2 : t < 0
    · rw [decide_eq_true h2, Bool.true_or]
      have e2 : decide (t < 0) = true := by simpa using h2
      clear h2
      go_enter Try.func35, Try.ntmps35
      go_wp2
      go_ret
      exact ⟨rfl, (Below.refl _ _).alloc (Nat.le_refl _) _⟩
    · rw [decide_eq_false h2, Bool.false_or]
      have e2 : decide (t < 0) = false := by simpa using h2
      clear h2
      go_enter Try.func35, Try.ntmps35
      go_wp2
      go_ret
      exact ⟨rfl, (Below.refl _ _).alloc (Nat.le_refl _) _⟩

def FxPost (xs : List OpM) (w : World) (e : Ending) (w' : World) : Prop := ∃ r : Int, e = .returned (.int .i64 r) ∧ decide (0 ≤ r) = xs.any opBad ∧ Below w.heap.size w w'
def FxRel (xs : List OpM) (w : World) (i : Value) (wr : World) : Prop := ∃ k : Nat, k ≤ xs.length ∧ i = .int .i64 k ∧ (xs.take k).any opBad = false ∧ Below w.heap.size w wr
set_option maxHeartbeats 4000000 in
set_option maxRecDepth 100000 in
theorem fewIdx_any (w : World) (a : Option Addr) (c : Nat) (xs : List OpM) (hs : SlOp w a xs) (ho : ∀ x ∈ xs, OpOk w x) (hl : xs.length ≤ maxLen) :
    Calls Try.prog 41 #[.slice a xs.length c, .func (.func 35) #[] #[]] w (FxPost xs w) := by
  have S := Lib.hid hs; have O := Lib.hid ho
  clear hs ho
  unfold maxLen at hl
  go_enter Try.func41, Try.ntmps41
  go_wp2_with fail
  go_loopw [8] (fun i wr => FxRel xs w i wr) (fun i _ => xs.length - (intOf i).toNat)
  case atStart => exact ⟨0, Nat.zero_le _, rfl, rfl, Below.refl _ _⟩
  case round =>
    obtain ⟨k, hk, rfl, hno, hB⟩ := hrel
    have HB := Lib.hid hB; have NO := Lib.hid hno
    clear hB hno
    by_cases hlt : k < xs.length
    · obtain ⟨x, ex, okx, c0, c1, c2, c3⟩ := (S.out.below HB.out).get (k := k) hlt
      have hst : Hid ((xs.take (k + 1)).any opBad = opBad x) := by
        show _ = _
        rw [List.take_add_one, ex.out, List.any_append, NO.out]
        simp
      have F := Lib.hid (few1_any x wr (O.out x (List.mem_of_getElem? ex.out)).2.1)
      cases hb : opBad x with
      | true =>
        have hany : Hid (xs.any opBad = true) := by show _ = _; rw [List.any_eq_true]; exact ⟨x, List.mem_of_getElem? ex.out, hb⟩
        rw [hb] at F
        clear hb
        go_wp2_with fail
        refine F.out.mono ?_
        rintro e w1 ⟨rfl, hb⟩
        have B1 := Lib.hid (HB.out.trans (hb.mono HB.out.size)); clear hb
        go_wp2_with fail
        go_ret
        exact ⟨_, rfl, by rw [hany.out]; simp, B1.out⟩
      | false =>
        rw [hb] at F hst
        clear hb
        go_wp2_with fail
        refine F.out.mono ?_
        rintro e w1 ⟨rfl, hb⟩
        have B1 := Lib.hid (HB.out.trans (hb.mono HB.out.size)); clear hb
        go_wp2_with fail
        go_roundw
        case rel => exact ⟨k + 1, by omega, by go_num, hst.out, B1.out⟩
        case measure => simp [intOf]; omega
    · obtain rfl : k = xs.length := by omega
      have hany : Hid (xs.any opBad = false) := by
        have h := NO.out
        rw [List.take_length] at h
        exact h
      go_wp2_with fail
      go_ret
      exact ⟨_, rfl, by rw [hany.out]; rfl, HB.out⟩
theorem few_any (w : World) (a : Option Addr) (c : Nat) (xs : List OpM) (hs : SlOp w a xs) (ho : ∀ x ∈ xs, OpOk w x) (hl : xs.length ≤ maxLen) :
    Calls Try.prog 14 #[.slice a xs.length c] w fun e w' => e = .returned (.bool (fewB xs)) ∧ Below w.heap.size w w' := by
  have I := Lib.hid (fewIdx_any w a c xs hs ho hl)
  unfold fewB
  clear hs ho
  unfold maxLen at hl
  by_cases h1 : xs.length ≤ 80
  · rw [decide_eq_true h1, Bool.true_and]
    have C : Hid (Calls Try.prog 34 #[.slice a xs.length c, .func (.func 35) #[] #[]] w fun e w' => e = .returned (.bool (xs.any opBad)) ∧ Below w.heap.size w w') := by
      show Calls _ _ _ _ _
      generalize xs.length = m at *
      go_enter Try.func34, Try.ntmps34
      go_wp2_with fail
      refine I.out.mono ?_
      rintro e w1 ⟨r, rfl, hr, hb⟩
      have HR := Lib.hid hr
      clear hr
      go_wp2_with fail
      go_ret
      exact ⟨by rw [← HR.out]; rfl, hb⟩
    have e1 : (xs.length : Int) ≤ 80 := by omega
    generalize xs.any opBad = ab at *
    generalize xs.length = m at *
    clear h1
    go_enter Try.func14, Try.ntmps14
    go_wp2_with fail
    refine C.out.mono ?_
    rintro e w1 ⟨rfl, hb⟩
    go_wp2_with fail
    go_ret
    exact ⟨rfl, hb⟩
  · rw [decide_eq_false h1, Bool.false_and]
    have e1 : (80 : Int) < (xs.length : Int) := by omega
    generalize xs.length = m at *
    clear h1
    go_enter Try.func14, Try.ntmps14
    go_wp2_with fail
    go_ret
    exact ⟨rfl, Below.refl _ _⟩
theorem few_ok {xs : List OpM} (h : fewB xs = true) : xs.length ≤ 80 ∧ ∀ x ∈ xs, x.data.length ≤ 1100 ∧ 0 ≤ x.ticks ∧ x.ticks ≤ 1073741824 := by
  unfold fewB at h
  simp only [Bool.and_eq_true, decide_eq_true_eq, Bool.not_eq_true', List.any_eq_false] at h
  refine ⟨h.1, fun x hx => ?_⟩
  have := h.2 x hx
  unfold opBad at this
  simp only [Bool.or_eq_true, decide_eq_true_eq] at this
  omega
end Go.Proofs.Ytjljjohoipnhhaa
