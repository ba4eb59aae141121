/-
  Contracts of (*Crossbar).Pointers.
-/
import Derived.Test.YtldgpdgoccccpaaBarMatch
namespace Go.Proofs.Ytldgpdgoccccpaa
open Go.RowKit
set_option linter.unusedVariables false

def gL (n : Nat) (g : Nat → Nat) : List Int := (List.range n).map fun k => (g k : Int)
theorem gL_len (n : Nat) (g : Nat → Nat) : (gL n g).length = n := by simp [gL]
theorem gL_get {n j : Nat} {g : Nat → Nat} {x : Int} (h : (gL n g)[j]? = some x) : j < n ∧ x = (g j : Int) := by
  unfold gL at h
  by_cases hj : j < n
  · rw [List.getElem?_map, List.getElem?_range hj] at h
    exact ⟨hj, (Option.some.inj h).symm⟩
  · rw [List.getElem?_eq_none (by simpa using hj)] at h; simp at h
theorem BarAt.slG {w : World} {b n : Nat} {g a : Nat → Nat} (h : BarAt w b n g a) (h8 : n ≤ 8) : SlI w (some ⟨b, 1, none⟩) (gL n g) := by
  intro j x hj
  obtain ⟨h1, rfl⟩ := gL_get hj
  refine ⟨rfl, ?_⟩
  rw [adr_mk]
  exact h.g (by omega)
theorem BarAt.slA {w : World} {b n : Nat} {g a : Nat → Nat} (h : BarAt w b n g a) (h8 : n ≤ 8) : SlI w (some ⟨b, 9, none⟩) (gL n a) := by
  intro j x hj
  obtain ⟨h1, rfl⟩ := gL_get hj
  refine ⟨rfl, ?_⟩
  rw [adr_mk]
  exact h.a (by omega)

set_option maxHeartbeats 400000 in
theorem ptr_nil (w : World) : Calls Try.prog 18 #[.pointer none] w fun e w' => e = .returned (.tuple #[.slice none 0 0, .slice none 0 0]) ∧ w = w' := by
  go_enter Try.func18, Try.ntmps18
  go_wp2_with fail
  go_ret2
  exact ⟨rfl, rfl⟩

/-- What the copies' region may load. -/
def PS (W : World) (cb n : Nat) (w : World) : Prop := w.cell? ⟨cb, 0, none⟩ = some (.int .i64 n) ∧ Below W.heap.size W w
theorem PS.mk' {W w : World} {cb n : Nat} (h : Below W.heap.size W w) (hN : Hid (W.cell? ⟨cb, 0, none⟩ = some (.int .i64 n))) : PS W cb n w := ⟨(h.cell (World.block_lt_of_cell? _ _ hN.out)).trans hN.out, h⟩
/-- A copy of n numbers at block b. -/
def Cp (w : World) (v : Value) (xs : List Int) (b : Nat) : Prop := ∃ sp c, v = .slice (some ⟨b, 0, none⟩) xs.length c ∧ Blk w b 3 (xs.map (Value.int .i64) ++ sp)
theorem Cp.below {w w' : World} {v : Value} {xs : List Int} {b : Nat} (h : Cp w v xs b) (u : Below w.heap.size w w') : Cp w' v xs b := by
  obtain ⟨sp, c, h1, h2⟩ := h
  exact ⟨sp, c, h1, h2.upd (S := fun _ => False) (Upd.of_below u) id⟩
theorem Cp.lt {w : World} {v : Value} {xs : List Int} {b : Nat} (h : Cp w v xs b) : b < w.heap.size := by
  obtain ⟨sp, c, h1, h2⟩ := h
  exact h2.lt
theorem Cp.sl {w : World} {a : Option Addr} {m c : Nat} {xs : List Int} {b : Nat} (h : Cp w (.slice a m c) xs b) : m = xs.length ∧ SlI w a xs := by
  obtain ⟨sp, c, h1, h2⟩ := h
  cases h1
  exact ⟨rfl, h2.slL⟩
theorem Rw.cp {w : World} {base : Nat} {v : Value} {xs : List Int} (h : Rw (Value.int .i64) 3 w base v xs) (hx : xs ≠ []) : ∃ b, Cp w v xs b ∧ base ≤ b := by
  obtain ⟨g, sp, c, h1, h2, h3⟩ := h.pos hx
  exact ⟨g, ⟨sp, c, h1, h3⟩, h2⟩
def PtrPost (W : World) (n : Nat) (g a : Nat → Nat) (e : Ending) (w : World) : Prop :=
  ∃ v1 v2 b1 b2, e = .returned (.tuple #[v1, v2]) ∧ Cp w v1 (gL n g) b1 ∧ Cp w v2 (gL n a) b2 ∧ W.heap.size ≤ b1 ∧ b1 < b2 ∧ Below W.heap.size W w

set_option maxHeartbeats 1000000 in
theorem ptr_any (W : World) (cb n : Nat) (g a : Nat → Nat) (h : BarAt W cb n g a) (h1 : 1 ≤ n) (h8 : n ≤ 8) :
    Calls Try.prog 18 #[.pointer (some ⟨cb, 0, none⟩)] W (PtrPost W n g a) := by
  have CG : Hid (∀ w, Below W.heap.size W w → Calls Try.prog 32 #[.slice (some ⟨cb, 1, none⟩) n 8] w fun e w' => ∃ v b, e = .returned v ∧ Cp w' v (gL n g) b ∧ w.heap.size ≤ b ∧ Below w.heap.size w w') := by
    intro w hb
    have C := cloneInt_any w (some ⟨cb, 1, none⟩) 8 (gL n g) (((h.upd (S := fun _ => False) (Upd.of_below hb) id)).slG h8) (by rw [gL_len]; omega)
    rw [gL_len] at C
    refine C.mono fun e w' ⟨v, e1, e2, e3⟩ => ?_
    obtain ⟨b, hc, hb⟩ := e2.cp (by intro e; have := gL_len n g; rw [e] at this; simp at this; omega)
    exact ⟨v, b, e1, hc, hb, e3⟩
  have CA : Hid (∀ w, Below W.heap.size W w → Calls Try.prog 32 #[.slice (some ⟨cb, 9, none⟩) n 8] w fun e w' => ∃ v b, e = .returned v ∧ Cp w' v (gL n a) b ∧ w.heap.size ≤ b ∧ Below w.heap.size w w') := by
    intro w hb
    have C := cloneInt_any w (some ⟨cb, 9, none⟩) 8 (gL n a) (((h.upd (S := fun _ => False) (Upd.of_below hb) id)).slA h8) (by rw [gL_len]; omega)
    rw [gL_len] at C
    refine C.mono fun e w' ⟨v, e1, e2, e3⟩ => ?_
    obtain ⟨b, hc, hb⟩ := e2.cp (by intro e; have := gL_len n a; rw [e] at this; simp at this; omega)
    exact ⟨v, b, e1, hc, hb, e3⟩
  have HN := Lib.hid h.n
  have x0 := h.n
  have n8 : (n : Int) ≤ 8 := by omega
  have P0 : PS W cb n W := PS.mk' (Below.refl _ _) HN
  have p0 := P0.2
  clear h
  go_enter Try.func18, Try.ntmps18
  go_wp2_with fail
  go_region_held3 (fun w' => w'.cell? ⟨cb, 0, none⟩ = some (.int .i64 n) ∧ Below W.heap.size W w')
    ((go_split_ands; first | exact PS.mk' (by assumption) HN | exact PS.mk' (Below.trans (by assumption) (Qt.refl _).drew.bel) HN | exact PS.mk' (Below.trans (by assumption) (Below.mono (by assumption) (Below.size (by assumption)))) HN | go_keep))
    (first
      | (go_at_call 32; go_split_ands; refine (CG.out _ (by assumption)).mono ?_; rintro e w1 ⟨v1, b1, rfl, hc1, hl1, hb1⟩)
      | (go_at_call 32; go_split_ands; refine (CA.out _ (by assumption)).mono ?_; rintro e w2 ⟨v2, b2, rfl, hc2, hl2, hb2⟩))
  have c1 := hc1.below hb2
  have lt1 := hc1.lt
  have hl1' : W.heap.size ≤ b1 := hl1
  rename_i hHeld
  have HB := Lib.hid hHeld.2
  have C1 := Lib.hid c1; have C2 := Lib.hid hc2
  have hlt : b1 < b2 := by omega
  clear hHeld hc1 hc2 c1 hb1 hb2 hl1 P0 p0
  go_wp2_with fail
  go_ret2
  exact ⟨v1, v2, b1, b2, rfl, C1.out, C2.out, hl1', hlt, HB.out⟩
end Go.Proofs.Ytldgpdgoccccpaa
