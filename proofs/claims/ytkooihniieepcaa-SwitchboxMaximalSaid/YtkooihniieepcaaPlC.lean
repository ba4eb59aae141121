/-
  Slices of calls that came in; few; the boxes of a law's parameters.
  few.
-/
import Derived.Test.YtkooihniieepcaaPlB
import Derived.Test.YtkooihniieepcaaOpen
import Derived.Deep.Strs
import Derived.Test.YtkooihniieepcaaSwR
namespace Go.Proofs.Ytkooihniieepcaa
open Go.RowKit Go.ChangeShapes Go.WideShapes Go.ChangeAt
set_option linter.unusedVariables false

theorem AcS.below {w w' : World} {a : Option Addr} {l : List Ac} (h : AcS w a l) (q : Below w.heap.size w w') : AcS w' a l := fun j x hj => by
  obtain ⟨h1, h2⟩ := h j x hj
  exact ⟨h1, fun k v hv => by rw [q.cell (World.block_lt_of_cell? _ _ (h2 k v hv))]; exact h2 k v hv⟩
theorem AcS.upd {w w' : World} {a : Option Addr} {l : List Ac} {S : Nat → Prop} (h : AcS w a l) (u : Upd S w w') (hs : ∀ k, S k → w.heap.size ≤ k) : AcS w' a l := fun j x hj => by
  obtain ⟨h1, h2⟩ := h j x hj
  exact ⟨h1, fun k v hv => by
    have hb := World.block_lt_of_cell? _ _ (h2 k v hv)
    rw [u.cell hb (fun x => by have := hs _ x; omega)]
    exact h2 k v hv⟩
instance acInh : Inhabited Ac := ⟨⟨0, 0, 0, 0, 0⟩⟩
set_option maxRecDepth 100000 in
theorem ac_open {H : Type} {enc : TypeId × Value → H} {w : World} {held : Bool} {v : Value} {d : DataW H} {ps : List MemPlace}
    (h : DataW.Trod enc Try.prog w 0 (fun _ => true) held 23 v d ps) (hv0 : Value.okWide Try.prog w .any 0 23 v) :
    ∃ a c xs, v = .slice a xs.length c ∧ AcS w a xs ∧ (∀ x ∈ xs, True) ∧ xs.length ≤ maxLen := by
  obtain ⟨fuel, hf⟩ := h
  obtain ⟨a0, n0, c0, rfl⟩ := okWide_slice Try.underlying23 hv0
  have hs := Try.underlying60
  have hc : Try.prog.cellsOf 60 = 5 := by kernel_rfl
  have q1 : Try.prog.cellsOf 3 = 1 := by kernel_rfl
  rcases Deep.open_slice Try.underlying23 hf with ⟨e1, _⟩ | ⟨a, len, cap, m, n, D, Pl, e1, hb, hl, hm, hmm, _, hx⟩
  · refine ⟨none, 0, [], by simpa [Value.cells] using e1, ?_, by simp, by simp⟩
    intro j x hj
    simp at hj
  · simp only [if_true] at hmm
    subst hmm
    rw [hc] at hx
    obtain ⟨B, hB⟩ := Deep.choose_lt (α := Ac) (n := m) (p := fun i y => ∀ (k : Nat) v, (acC y)[k]? = some v → w.cell? ((a.add (i * 5)).add k) = some v) (fun i hi => by
      obtain ⟨cs', g1, g2⟩ := hx i hi
      obtain ⟨_, hlen, hcell⟩ := World.cells?_some g1
      obtain ⟨xs, n', _, _, _, hl5, hf5⟩ := DataW.trod_struct hs g2
      match cs', hlen with
      | [u0, u1, u2, u3, u4], _ =>
        have f : ∀ (k : Nat) (u : Value) (y : DataW H × List MemPlace), DataW.trod enc Try.prog w 0 (fun _ => true) held n' 3 [u] = some y → ∃ z : Int, u = .int .i64 z := fun k u y hy => by
          obtain ⟨z, r, _, _⟩ := DataW.trod_int Try.underlying3 hy
          exact ⟨z, by simpa using r⟩
        match xs, hl5 with
        | [y0, y1, y2, y3, y4], _ =>
          have k0 : DataW.trod enc Try.prog w 0 (fun _ => true) held n' 3 [u0] = some y0 := by
            have := hf5 0 _ rfl
            change DataW.trod enc Try.prog w 0 (fun _ => true) held n' 3 (([u0, u1, u2, u3, u4].drop 0).take (Try.prog.cellsOf 3)) = some y0 at this
            rw [q1] at this
            exact this
          have k1 : DataW.trod enc Try.prog w 0 (fun _ => true) held n' 3 [u1] = some y1 := by
            have := hf5 1 _ rfl
            change DataW.trod enc Try.prog w 0 (fun _ => true) held n' 3 (([u0, u1, u2, u3, u4].drop 1).take (Try.prog.cellsOf 3)) = some y1 at this
            rw [q1] at this
            exact this
          have k2 : DataW.trod enc Try.prog w 0 (fun _ => true) held n' 3 [u2] = some y2 := by
            have := hf5 2 _ rfl
            change DataW.trod enc Try.prog w 0 (fun _ => true) held n' 3 (([u0, u1, u2, u3, u4].drop 2).take (Try.prog.cellsOf 3)) = some y2 at this
            rw [q1] at this
            exact this
          have k3 : DataW.trod enc Try.prog w 0 (fun _ => true) held n' 3 [u3] = some y3 := by
            have := hf5 3 _ rfl
            change DataW.trod enc Try.prog w 0 (fun _ => true) held n' 3 (([u0, u1, u2, u3, u4].drop 3).take (Try.prog.cellsOf 3)) = some y3 at this
            rw [q1] at this
            exact this
          have k4 : DataW.trod enc Try.prog w 0 (fun _ => true) held n' 3 [u4] = some y4 := by
            have := hf5 4 _ rfl
            change DataW.trod enc Try.prog w 0 (fun _ => true) held n' 3 (([u0, u1, u2, u3, u4].drop 4).take (Try.prog.cellsOf 3)) = some y4 at this
            rw [q1] at this
            exact this
          obtain ⟨z0, rfl⟩ := f 0 u0 y0 k0
          obtain ⟨z1, rfl⟩ := f 1 u1 y1 k1
          obtain ⟨z2, rfl⟩ := f 2 u2 y2 k2
          obtain ⟨z3, rfl⟩ := f 3 u3 y3 k3
          obtain ⟨z4, rfl⟩ := f 4 u4 y4 k4
          refine ⟨⟨z0, z1, z2, z3, z4⟩, fun k v hv => ?_⟩
          have hk : k < 5 := by
            have := get_lt hv
            exact this
          have := hcell k (by show k < 5; omega)
          rcases (show k = 0 ∨ k = 1 ∨ k = 2 ∨ k = 3 ∨ k = 4 by omega) with rfl | rfl | rfl | rfl | rfl <;> (cases hv; exact this))
    refine ⟨some a, m, (List.range len).map B, by simpa [Value.cells] using e1, ?_, (fun _ _ => trivial), by simp; omega⟩
    intro j y hj
    simp only [List.getElem?_map] at hj
    obtain ⟨i, hi, rfl⟩ := Option.map_eq_some_iff.1 hj
    have hlt : j < len := by
      rcases Nat.lt_or_ge j len with h | h
      · exact h
      · rw [List.getElem?_eq_none (by simpa using h)] at hi; simp at hi
    rw [List.getElem?_range hlt] at hi
    obtain rfl := Option.some.inj hi
    have hsp : a.spot.isNone = true := by
      have h0 := hB 0 (by omega) 0 _ rfl
      have : a.spot = none := by simpa [Addr.add] using World.cell?_spot h0
      simp [this]
    refine ⟨hsp, fun k v hv => ?_⟩
    have := hB j (by omega) k v hv
    have ea : ∀ j, a.add j = adr (some a) j := fun j => add_eq a j hsp
    rw [ea] at this
    rw [show adr (some a) (j * 5 + k) = (adr (some a) (j * 5)).add k by
      unfold adr Addr.add
      split
      · rename_i h; subst h; rfl
      · simp [Nat.add_assoc]]
    exact this
def fewB (P : Int) (zs os : List Int) (l : List Ac) : Bool := okBoxB P zs && decide (1 ≤ os.length ∧ os.length ≤ 8 ∧ l.length ≤ 60) && l.all fun x => decide (0 ≤ x.dst ∧ x.dst ≤ 100)
end Go.Proofs.Ytkooihniieepcaa
namespace Go.Proofs.Ytkooihniieepcaa
open Go.RowKit
set_option linter.unusedVariables false

def dstB (x : Ac) : Bool := decide (0 ≤ x.dst) && decide (x.dst ≤ 100)
def FwRel (W : World) (l : List Ac) (iv : Value) (w : World) : Prop := ∃ k ≤ l.length, iv = .int .i64 k ∧ (∀ (j : Nat) x, j < k → l[j]? = some x → 0 ≤ x.dst ∧ x.dst ≤ 100) ∧ Below W.heap.size W w
set_option maxHeartbeats 8000000 in
set_option maxRecDepth 100000 in
theorem few_any (w : World) (P : Int) (a0 : Option Addr) (c0 : Nat) (zs : List Int) (a1 : Option Addr) (c1 : Nat) (os : List Int) (a2 : Option Addr) (c2 : Nat) (l : List Ac) (h0 : SlI w a0 zs) (m0 : zs.length ≤ maxLen) (m1 : os.length ≤ maxLen) (h2 : AcS w a2 l) (m2 : l.length ≤ maxLen) :
    Calls Try.prog 10 #[.int .i64 P, .slice a0 zs.length c0, .slice a1 os.length c1, .slice a2 l.length c2] w fun e w' => e = .returned (.int .i64 (if fewB P zs os l = true then 1 else 0)) ∧ Below w.heap.size w w' := by
  have VA := Lib.hid (valid_any (w := w) (a := a0) (c0 := c0) (P := P) h0 m0)
  have H2 := Lib.hid h2
  clear h0 h2
  unfold maxLen at m0 m1 m2
  obtain ⟨r, hr⟩ : ∃ r, r = fewB P zs os l := ⟨_, rfl⟩
  rw [← hr]
  have HR := Lib.hid hr
  clear hr
  obtain ⟨n0, hn0⟩ : ∃ n, n = zs.length := ⟨_, rfl⟩
  obtain ⟨n1, hn1⟩ : ∃ n, n = os.length := ⟨_, rfl⟩
  obtain ⟨n2, hn2⟩ : ∃ n, n = l.length := ⟨_, rfl⟩
  rw [← hn0] at m0 VA ⊢
  rw [← hn1] at m1 ⊢
  rw [← hn2] at m2 ⊢
  have N1 := Lib.hid hn1; have N2 := Lib.hid hn2
  clear hn0 hn1 hn2
  cases hv : okBoxB P zs with
  | false =>
    have RF : Hid (r = false) := Lib.hid (by rw [HR.out]; unfold fewB; rw [hv]; rfl)
    rw [hv] at VA
    clear hv
    have RF' := RF.out
    subst RF'
    clear HR RF
    go_enter Try.func10, Try.ntmps10
    go_wp2_with fail
    refine VA.out.mono ?_
    rintro e w' ⟨rfl, rfl⟩
    go_wp2_with fail
    go_ret
    exact ⟨ret_int rfl, Below.refl _ _⟩
  | true =>
    rw [hv] at VA
    by_cases g1 : n1 < 1
    · have RF' : r = false := by
        rw [HR.out]; unfold fewB
        rw [hv, decide_eq_false (by have := N1.out; omega)]; rfl
      subst RF'
      clear HR hv
      have g1i : (n1 : Int) < 1 := by omega
      go_enter Try.func10, Try.ntmps10
      go_wp2_with fail
      refine VA.out.mono ?_
      rintro e w' ⟨rfl, rfl⟩
      go_wp2_with fail
      go_ret
      exact ⟨ret_int rfl, Below.refl _ _⟩
    by_cases g2 : 8 < n1
    · have RF' : r = false := by
        rw [HR.out]; unfold fewB
        rw [hv, decide_eq_false (by have := N1.out; omega)]; rfl
      subst RF'
      clear HR hv
      have g1i : ¬ (n1 : Int) < 1 := by omega
      have g2i : (8 : Int) < (n1 : Int) := by omega
      go_enter Try.func10, Try.ntmps10
      go_wp2_with fail
      refine VA.out.mono ?_
      rintro e w' ⟨rfl, rfl⟩
      go_wp2_with fail
      go_ret
      exact ⟨ret_int rfl, Below.refl _ _⟩
    have g1i : ¬ (n1 : Int) < 1 := by omega
    have g2i : ¬ (8 : Int) < (n1 : Int) := by omega
    by_cases g3 : 60 < n2
    · have RF' : r = false := by
        rw [HR.out]; unfold fewB
        rw [hv, decide_eq_false (by have := N2.out; omega)]; rfl
      subst RF'
      clear HR hv
      have g3i : (60 : Int) < (n2 : Int) := by omega
      go_enter Try.func10, Try.ntmps10
      go_wp2_with fail
      refine VA.out.mono ?_
      rintro e w' ⟨rfl, rfl⟩
      go_wp2_with fail
      go_ret
      exact ⟨ret_int rfl, Below.refl _ _⟩
    have g3i : ¬ (60 : Int) < (n2 : Int) := by omega
    have HV := Lib.hid hv
    clear hv
    have NO : Hid (∀ (j : Nat) x, l[j]? = some x → ¬ (0 ≤ x.dst ∧ x.dst ≤ 100) → r = false) := Lib.hid (fun j x hj hx => by
      rw [HR.out]
      unfold fewB
      have : (l.all fun x => decide (0 ≤ x.dst ∧ x.dst ≤ 100)) = false := by
        rw [List.all_eq_false]
        exact ⟨x, List.mem_of_getElem? hj, by simpa using hx⟩
      rw [this, Bool.and_false])
    have YES : Hid ((∀ (j : Nat) x, j < n2 → l[j]? = some x → 0 ≤ x.dst ∧ x.dst ≤ 100) → r = true) := Lib.hid (fun hx => by
      rw [HR.out]
      unfold fewB
      rw [HV.out, decide_eq_true (by have := N1.out; have := N2.out; omega), Bool.true_and, Bool.true_and, List.all_eq_true]
      intro x hm
      obtain ⟨j, hj⟩ := List.mem_iff_getElem?.1 hm
      exact decide_eq_true (hx j x (by rw [N2.out]; exact get_lt hj) hj))
    clear HR
    go_enter Try.func10, Try.ntmps10
    go_wp2_with fail
    refine VA.out.mono ?_
    rintro e w' ⟨rfl, rfl⟩
    go_wp2_with fail
    go_loopw [32] (fun iv wr => FwRel w l iv wr) (fun iv _ => n2 - (intOf iv).toNat)
    case atStart => exact ⟨0, Nat.zero_le _, rfl, fun j x hj => absurd hj (Nat.not_lt_zero _), Below.refl _ _⟩
    case round =>
      obtain ⟨k, hk, rfl, hx, hB⟩ := hrel
      have HX := Lib.hid hx; have BB := Lib.hid hB
      rw [← N2.out] at hk
      clear hx hB
      by_cases hlt : k < n2
      · have hki : (k : Int) < (n2 : Int) := by omega
        obtain ⟨x, hx⟩ : ∃ x, l[k]? = some x := ⟨l[k]'(by rw [← N2.out]; exact hlt), by simp [show k < l.length by rw [← N2.out]; exact hlt]⟩
        obtain ⟨oka, cx⟩ := (H2.out.below BB.out) k x hx
        have XX := Lib.hid hx
        obtain ⟨akind, aport, acls, adst, alim⟩ := x
        have x0 := cx 0 _ rfl; have x1 := cx 1 _ rfl; have x2 := cx 2 _ rfl; have x3 := cx 3 _ rfl; have x4 := cx 4 _ rfl
        rw [Nat.add_zero] at x0
        have B2 : Hid (Below w.heap.size w (wr.alloc (.cells #[.int .i64 akind, .int .i64 aport, .int .i64 acls, .int .i64 adst, .int .i64 alim] 60))) := Lib.hid (BB.out.alloc BB.out.size _)
        clear cx hx
        by_cases d1 : adst < 0
        · have RF' : r = false := NO.out k _ XX.out (by show ¬ (0 ≤ adst ∧ adst ≤ 100); omega)
          subst RF'
          go_wp2_with fail
          go_ret
          exact ⟨ret_int rfl, B2.out⟩
        by_cases d2 : 100 < adst
        · have RF' : r = false := NO.out k _ XX.out (by show ¬ (0 ≤ adst ∧ adst ≤ 100); omega)
          subst RF'
          go_wp2_with fail
          go_ret
          exact ⟨ret_int rfl, B2.out⟩
        go_wp2_with fail
        go_roundw
        case rel =>
          refine ⟨k + 1, by rw [← N2.out]; omega, by go_num, fun j x hj hx => ?_, B2.out⟩
          by_cases e : j = k
          · rw [e, XX.out] at hx
            cases hx
            exact ⟨by show 0 ≤ adst; omega, by show adst ≤ 100; omega⟩
          · exact HX.out j x (by omega) hx
        case measure => simp [intOf]; omega
      · obtain rfl : k = n2 := by omega
        have RF' : r = true := YES.out HX.out
        subst RF'
        go_wp2_with fail
        go_ret
        exact ⟨ret_int rfl, BB.out⟩
end Go.Proofs.Ytkooihniieepcaa
