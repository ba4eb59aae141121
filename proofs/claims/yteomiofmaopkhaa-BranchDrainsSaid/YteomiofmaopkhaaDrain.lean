/-
  Draining: the plain law, and what the law's own loops keep in memory.
-/
import Derived.Test.YteomiofmaopkhaaRdyLib
namespace Go.Proofs.Yteomiofmaopkhaa
open Go.RowKit
set_option linter.unusedVariables false

def drain (o : Nat) : Nat → RunSt → RunSt
  | 0, st => st
  | n + 1, st => stepSt (List.replicate o true) (drain o n st)
theorem drain_put (o : Nat) (st : RunSt) : ∀ n, (drain o n st).put = st.put
  | 0 => rfl
  | n + 1 => drain_put o st n
theorem drain_inv {o k : Nat} {room : Int} {st : RunSt} (hi : RunInv o room k st) (hh : HoldSt o st.fs) (ho : OrdSt o st) (h8 : o ≤ 8) :
    ∀ n, RunInv o room (k + n) (drain o n st) ∧ HoldSt o (drain o n st).fs ∧ OrdSt o (drain o n st) ∧ (drain o n st).fs.length ≤ st.fs.length - n
  | 0 => ⟨hi, hh, ho, by simp [drain]⟩
  | n + 1 => by
    obtain ⟨h1, h2, h3, h4⟩ := drain_inv hi hh ho h8 n
    refine ⟨h1.step _, h2.step _, h3.step h8 (fun x hx => (h1.ids x hx).1) _ (by simp), ?_⟩
    have := drain_len h2 h8
    show (keepF (stepAll (List.replicate o true) 0 (drain o n st).fs).2).length ≤ _
    omega
/-- All has left. -/
theorem drain_end {o k : Nat} {room : Int} {st : RunSt} (hi : RunInv o room k st) (hh : HoldSt o st.fs) (ho : OrdSt o st) (h8 : o ≤ 8) :
    (drain o st.fs.length st).fs = [] ∧ (drain o st.fs.length st).freed = st.put.length ∧ ∀ j, j < o → (drain o st.fs.length st).left[j]? = some (ownIds j 0 st.put) := by
  obtain ⟨h1, h2, h3, h4⟩ := drain_inv hi hh ho h8 st.fs.length
  have e : (drain o st.fs.length st).fs = [] := List.eq_nil_of_length_eq_zero (by omega)
  refine ⟨e, ?_, fun j hj => ?_⟩
  · have := h1.cnt
    rw [e, drain_put] at this
    simpa using this
  · obtain ⟨l, g1, g2⟩ := h3 j hj
    rw [e, drain_put] at g2
    simp [wIds] at g2
    rw [g1, g2]

/-- The memory: the run's own, and a block that is never written. -/
def RanB (w0 : World) (o : Nat) (room : Int) (st : RunSt) (b ml : Nat) (ap : Option Addr) (cp : Nat) (g : Nat) (L : List Value) (w : World) : Prop :=
  ∃ v prow rows col, RunM w0 w0.heap.size b ml o room v st.fs st.freed (.slice ap st.put.length cp) prow rows col w ∧ prow.map RowOf.xs = st.put ∧ rows.map RowOf.xs = st.left ∧ Blk w g 4 L ∧ col g = 3
/-- In the round: beside it the list that the step returned, of which j numbers are done. -/
def RanX (w0 : World) (o : Nat) (room : Int) (st : RunSt) (b ml : Nat) (ap : Option Addr) (cp : Nat) (g : Nat) (L : List Value) (lr : Nat) (ids : List Int) (j : Nat) (w : World) : Prop :=
  ∃ v prow rows col, RunM w0 w0.heap.size b ml o room v (keepF (stepAll (List.replicate o true) 0 st.fs).2) (st.freed + ((st.fs.length : Int) - (keepF (stepAll (List.replicate o true) 0 st.fs).2).length)) (.slice ap st.put.length cp) prow rows col w ∧ prow.map RowOf.xs = st.put ∧
    rows.map RowOf.xs = addLeft (st.left.take j) (ids.take j) ++ st.left.drop j ∧ Blk w g 4 L ∧ col g = 3 ∧ Blk w lr 3 (ids.map (Value.int .i64)) ∧ (col lr = 0 ∨ col lr = 3)
section
variable {w0 : World} {o : Nat} {room : Int} {st : RunSt} {b ml : Nat} {ap : Option Addr} {cp g : Nat} {L : List Value} {w w' : World}
theorem RanB.ran (h : RanB w0 o room st b ml ap cp g L w) : Ran w0 o room st b ml ap cp w := by
  obtain ⟨v, prow, rows, col, hM, hP, hL, _⟩ := h
  exact ⟨v, prow, rows, col, hM, hP, hL⟩
theorem RanB.below (h : RanB w0 o room st b ml ap cp g L w) (q : Below w.heap.size w w') : RanB w0 o room st b ml ap cp g L w' := by
  obtain ⟨v, prow, rows, col, hM, hP, hL, hb, hc⟩ := h
  exact ⟨v, prow, rows, _, hM.below q 3, hP, hL, hb.upd (S := fun _ => False) (Upd.of_below q) id, (recol_old hb.lt).trans hc⟩
theorem RanB.of {wc : World} (h : Ran w0 o room st b ml ap cp wc) (q : Below wc.heap.size wc w) (hg : wc.heap.size ≤ g) (hb : Blk w g 4 L) : RanB w0 o room st b ml ap cp g L w := by
  obtain ⟨v, prow, rows, col, hM, hP, hL⟩ := h
  exact ⟨v, prow, rows, _, hM.below q 3, hP, hL, hb, recol_new hg⟩
def StepX (w0 : World) (o : Nat) (room : Int) (st : RunSt) (b ml : Nat) (ap : Option Addr) (cp g : Nat) (L : List Value) (w : World) (e : Ending) (w' : World) : Prop :=
  e = .returned (.slice (some ⟨w.heap.size, 0, none⟩) o o) ∧ RanX w0 o room st b ml ap cp g L w.heap.size (stepAll (List.replicate o true) 0 st.fs).1 0 w'
theorem step_all {n : Nat} (h : RanB w0 o room st b ml ap cp g ((List.replicate o true).map Value.bool) w) (hi : RunInv o room n st) (h64 : room ≤ 64) (ho1 : 1 ≤ o) (ho : o ≤ 8) (hn : n ≤ 1000) :
    Calls Try.prog 20 #[.pointer (some ⟨b, 0, none⟩), .slice (some ⟨g, 0, none⟩) o o] w (StepX w0 o room st b ml ap cp g ((List.replicate o true).map Value.bool) w) := by
  obtain ⟨v, prow, rows, col, hM, hP, hL, hb, hc⟩ := h
  have hfr := hi.fr; have hcnt := hi.cnt; have hpk := hi.pk
  have hng : ¬ fkS b v g := fun hj => by have := hM.cF g hj; omega
  refine (step_any w _ b o room v st.fs st.freed hM.hF (some ⟨g, 0, none⟩) o (List.replicate o true) hb.sl (by simp) ho ho1 (by omega) hi.b8 hi.f0 (by omega) hng).mono ?_
  rintro e w' ⟨v', he, hr, hF, hU, hv⟩
  refine ⟨he, v', prow, rows, _, hM.fork hU hF (.inl hv), hP, by rw [hL]; rfl, hb.upd hU hng, (recol_old hb.lt).trans hc, hr, .inl (recol_new (Nat.le_refl _))⟩
theorem RanX.next {lr : Nat} {ids : List Int} {j : Nat} {l : List Int} {x : Int} (h : RanX w0 o room st b ml ap cp g L lr ids j w) (hl : st.left[j]? = some l) (hx : ids[j]? = some x) (h0 : ¬ 0 ≤ x) :
    RanX w0 o room st b ml ap cp g L lr ids (j + 1) w := by
  obtain ⟨v, prow, rows, col, hM, hP, hL, hb, hc, hr, hcr⟩ := h
  refine ⟨v, prow, rows, col, hM, hP, ?_, hb, hc, hr, hcr⟩
  rw [addLeft_take hl hx, if_neg h0, hL, drop_cons_get hl]
  simp
/-- What the append asks. -/
theorem RanX.at_ {lr : Nat} {ids : List Int} {j : Nat} {l : List Int} (h : RanX w0 o room st b ml ap cp g L lr ids j w) (hl : st.left[j]? = some l) (hi : ids.length = st.left.length) :
    ∃ ar cr, w.cell? ⟨ml, j, none⟩ = some (.slice ar l.length cr) ∧ OwnI w w0.heap.size ⟨ar, cr, l⟩ := by
  obtain ⟨v, prow, rows, col, hM, hP, hL, hb, hc, hr, hcr⟩ := h
  have hj := get_lt hl
  have hA : (addLeft (st.left.take j) (ids.take j)).length = j := by rw [addLeft_len, List.length_take]; omega
  have h1 : (rows.map RowOf.xs)[j]? = some l := by
    rw [hL, List.getElem?_append_right (by omega), hA, Nat.sub_self, drop_cons_get hl]; rfl
  rw [List.getElem?_map] at h1
  obtain ⟨⟨ar, cr, l'⟩, er, rfl⟩ := Option.map_eq_some_iff.1 h1
  exact ⟨ar, cr, hM.hm.cell (i := j) (by rw [List.getElem?_map, er]; rfl), hM.hl _ (List.mem_of_getElem? er)⟩
theorem RanX.app {lr : Nat} {ids : List Int} {j : Nat} {l : List Int} {x : Int} {o1 : Obj} {w1 : World} {ar : Option Addr} {cr g2 cap : Nat} (h : RanX w0 o room st b ml ap cp g L lr ids j w) (hl : st.left[j]? = some l) (hx : ids[j]? = some x) (h0 : 0 ≤ x) (hi : ids.length = st.left.length)
    (hcell : w.cell? ⟨ml, j, none⟩ = some (.slice ar l.length cr))
    (hown : w1.ownsRow w0.heap.size 3 1 (.slice (some ⟨g2, 0, none⟩) (l.length + 1) cap) (l.length + 1) (l.map (Value.int .i64) ++ [.int .i64 x])) (hgr : (w.alloc o1).grownBy w1 (Value.slice ar l.length cr).ownBlock)
    (hat : (Value.slice ar l.length cr).ownBlock = some g2 ∨ g2 = w.heap.size + 1) :
    RanX w0 o room st b ml ap cp g L lr ids (j + 1) (w1.setCell ⟨ml, j, none⟩ (.slice (some ⟨g2, 0, none⟩) (l.length + 1) cap)) ∧ w1.frozen? ⟨ml, j, none⟩ = false ∧ w1.cell? ⟨ml, j, none⟩ = some (.slice ar l.length cr) := by
  obtain ⟨v, prow, rows, col, hM0, hP, hL, hb0, hc0, hr0, hcr0⟩ := h
  have hj := get_lt hl
  have hA : (addLeft (st.left.take j) (ids.take j)).length = j := by rw [addLeft_len, List.length_take]; omega
  have h1 : (rows.map RowOf.xs)[j]? = some l := by
    rw [hL, List.getElem?_append_right (by omega), hA, Nat.sub_self, drop_cons_get hl]; rfl
  rw [List.getElem?_map] at h1
  obtain ⟨⟨ar', cr', l'⟩, er, rfl⟩ := Option.map_eq_some_iff.1 h1
  have hc2 := hM0.hm.cell (i := j) (v := .slice ar' l'.length cr') (by rw [List.getElem?_map, er]; rfl)
  dsimp only at hcell hgr hat hown
  rw [hc2] at hcell
  have e3 := Option.some.inj hcell
  injection e3 with e4 e5 e6
  subst e4; subst e6
  have q : Below w.heap.size w (w.alloc o1) := (Below.refl _ w).alloc (Nat.le_refl _) o1
  have hM := hM0.below q 3
  have hb := hb0.alloc o1
  have hr := hr0.alloc o1
  have hc : recol col w.heap.size 3 g = 3 := (recol_old hb0.lt).trans hc0
  have hcr : recol col w.heap.size 3 lr = 0 ∨ recol col w.heap.size 3 lr = 3 := by rw [recol_old hr0.lt]; exact hcr0
  generalize recol col w.heap.size 3 = col2 at *
  have hU : Upd (fun i => (RowOf.val ⟨ar', cr', l'⟩).ownBlock = some i) (w.alloc o1) w1 := ⟨hgr.os, hgr.tape, hgr.output, hgr.size, fun i hi hs => hgr.block i hi (fun e => hs e.symm)⟩
  have cml : ∀ i, (RowOf.val ⟨ar', cr', l'⟩).ownBlock = some i → col2 i = 4 + j := fun i hi => hM.cL j _ er i hi
  have hml : Blk w1 ml 26 (rows.map RowOf.val) := hM.hm.upd hU (fun hs => by have := cml _ hs; rw [hM.cM] at this; omega)
  refine ⟨⟨v, prow, _, _, hM.addLeft (k := j) er x hU hown (hat.imp id (fun h => by simp; omega)), hP, ?_,
    (hb.upd hU (fun hs => by have := cml _ hs; omega)).setO _ (fun e => by have h1 := hM.cM; rw [e] at hc; change col2 ml = 3 at hc; omega), by rw [recol_old hb.lt]; exact hc,
    (hr.upd hU (fun hs => by have := cml _ hs; omega)).setO _ (fun e => by have h1 := hM.cM; rw [e] at hcr; change col2 ml = 0 ∨ col2 ml = 3 at hcr; omega), by rw [recol_old hr.lt]; exact hcr⟩,
    hml.free j, hml.cell (i := j) (by rw [List.getElem?_map, er]; rfl)⟩
  rw [addLeft_take hl hx, if_pos h0, List.map_set, hL, drop_cons_get hl]
  have := set_mid (addLeft (st.left.take j) (ids.take j)) (st.left.drop (j + 1)) l' (l' ++ [x])
  rw [hA] at this
  rw [this]; simp
theorem RanX.done {lr : Nat} (h : RanX w0 o room st b ml ap cp g L lr (stepAll (List.replicate o true) 0 st.fs).1 o w) (hl : st.left.length = o) : RanB w0 o room (stepSt (List.replicate o true) st) b ml ap cp g L w := by
  obtain ⟨v, prow, rows, col, hM, hP, hL, hb, hc, hr, hcr⟩ := h
  refine ⟨v, prow, rows, col, hM, hP, ?_, hb, hc⟩
  have e2 : (stepAll (List.replicate o true) 0 st.fs).1.length = st.left.length := by rw [(stepAll_len _ _ _).2, hl]; simp
  rw [hL]
  have := addLeft_all st.left _ e2
  rw [hl] at this
  exact this
theorem RanX.cell {lr : Nat} {ids : List Int} {j : Nat} {x : Int} (h : RanX w0 o room st b ml ap cp g L lr ids j w) (hx : ids[j]? = some x) : w.cell? ⟨lr, j, none⟩ = some (.int .i64 x) := by
  obtain ⟨v, prow, rows, col, hM, hP, hL, hb, hc, hr, hcr⟩ := h
  exact hr.cell (by simp [hx])
theorem RanX.bel {lr : Nat} {ids : List Int} {j : Nat} (h : RanX w0 o room st b ml ap cp g L lr ids j w) : Below w0.heap.size w0 w := by
  obtain ⟨v, prow, rows, col, hM, _⟩ := h
  exact hM.bel
end
end Go.Proofs.Yteomiofmaopkhaa
