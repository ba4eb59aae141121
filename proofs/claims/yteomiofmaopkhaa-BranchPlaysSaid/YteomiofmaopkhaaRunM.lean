/-
  What run keeps in memory: the fork, the lists of outputs that were put, and what left at each output.
-/
import Derived.Test.YteomiofmaopkhaaOpenOp
namespace Go.Proofs.Yteomiofmaopkhaa
open Go.RowKit
set_option linter.unusedVariables false

abbrev OwnI (w : World) (B : Nat) (r : RowOf Int) : Prop := w.ownsRow B 3 1 r.val r.xs.length (r.xs.map (Value.int .i64))
/-- Each block of the run's own has a colour: 0 the fork, 1 the list of puts, 2 the list of lefts, 3 what is never written again, 4 + k what left at output k. -/
structure RunM (w0 : World) (B b ml o : Nat) (room : Int) (v : Value) (fs : List Fr) (freed : Int) (pv : Value) (prow rows : List (RowOf Int)) (col : Nat → Nat) (w : World) : Prop where
  hF : FkAt w B b o room v fs freed
  hp : w.ownsRow B 26 1 pv prow.length (prow.map RowOf.val)
  hpr : ∀ r ∈ prow, OwnI w B r
  hm : Blk w ml 26 (rows.map RowOf.val)
  hl : ∀ r ∈ rows, OwnI w B r
  ho : rows.length = o
  cF : ∀ j, fkS b v j → col j = 0
  cP : ∀ j, pv.ownBlock = some j → col j = 1
  cM : col ml = 2
  cR : ∀ r ∈ prow, ∀ j, r.val.ownBlock = some j → col j = 3
  cL : ∀ (k : Nat) (r : RowOf Int), rows[k]? = some r → ∀ j, r.val.ownBlock = some j → col j = 4 + k
  bm : B ≤ ml
  bel : Below B w0 w
  hB : B ≤ w.heap.size
section
variable {w0 : World} {B b ml o : Nat} {room : Int} {v v' : Value} {fs fs' : List Fr} {freed freed' : Int} {pv pv' : Value} {prow rows : List (RowOf Int)} {col : Nat → Nat} {w w' : World}
/-- A new colour for what is new. -/
def recol (col : Nat → Nat) (H c j : Nat) : Nat := if j < H then col j else c
theorem recol_old {col : Nat → Nat} {H c j : Nat} (h : j < H) : recol col H c j = col j := if_pos h
theorem recol_new {col : Nat → Nat} {H c j : Nat} (h : H ≤ j) : recol col H c j = c := if_neg (by omega)
/-- Only blocks of colour c have turned, and c is not 0 to 2, nor the colour of a row: all is as it was; what is new has colour d. -/
theorem RunM.below (h : RunM w0 B b ml o room v fs freed pv prow rows col w) (q : Below w.heap.size w w') (d : Nat) : RunM w0 B b ml o room v fs freed pv prow rows (recol col w.heap.size d) w' := by
  have u : Upd (fun _ => False) w w' := Upd.of_below q
  refine ⟨h.hF.below q, own_upd h.hp u (fun _ _ => id), fun r hr => own_upd (h.hpr r hr) u (fun _ _ => id), h.hm.upd u id, fun r hr => own_upd (h.hl r hr) u (fun _ _ => id), h.ho, ?_, ?_, ?_, ?_, ?_, h.bm, h.bel.trans (q.mono h.hB), Nat.le_trans h.hB q.size⟩
  · intro j hj; rw [recol_old (h.hF.f_lt hj).1]; exact h.cF j hj
  · intro j hj; rw [recol_old (own_lt h.hp hj).1]; exact h.cP j hj
  · rw [recol_old h.hm.lt]; exact h.cM
  · intro r hr j hj; rw [recol_old (own_lt (h.hpr r hr) hj).1]; exact h.cR r hr j hj
  · intro k r hr j hj; rw [recol_old (own_lt (h.hl r (List.mem_of_getElem? hr)) hj).1]; exact h.cL k r hr j hj
/-- The fork has turned. -/
theorem RunM.fork (h : RunM w0 B b ml o room v fs freed pv prow rows col w) (u : Upd (fkS b v) w w') (hF : FkAt w' B b o room v' fs' freed') (hv : v'.ownBlock = v.ownBlock ∨ ∀ g, v'.ownBlock = some g → w.heap.size ≤ g) :
    RunM w0 B b ml o room v' fs' freed' pv prow rows (recol col w.heap.size 0) w' := by
  have n1 : ∀ g, col g ≠ 0 → ¬ fkS b v g := fun g hg hs => hg (h.cF g hs)
  refine ⟨hF, own_upd h.hp u (fun g hg => n1 g (by rw [h.cP g hg]; decide)), fun r hr => own_upd (h.hpr r hr) u (fun g hg => n1 g (by rw [h.cR r hr g hg]; decide)), h.hm.upd u (n1 _ (by rw [h.cM]; decide)),
    fun r hr => ?_, h.ho, ?_, ?_, ?_, ?_, ?_, h.bm, Upd.below h.bel u h.hB (fun i hi => (h.hF.f_lt hi).2), Nat.le_trans h.hB u.size⟩
  · obtain ⟨k, hk⟩ := List.mem_iff_getElem?.1 hr
    exact own_upd (h.hl r hr) u (fun g hg => n1 g (by rw [h.cL k r hk g hg]; omega))
  · intro j hj
    rcases hj with rfl | hj
    · rw [recol_old h.hF.hb.lt]; exact h.cF _ (.inl rfl)
    · rcases hv with hv | hv
      · rw [hv] at hj
        rw [recol_old (own_lt h.hF.own hj).1]; exact h.cF j (.inr hj)
      · exact recol_new (hv j hj)
  · intro j hj; rw [recol_old (own_lt h.hp hj).1]; exact h.cP j hj
  · rw [recol_old h.hm.lt]; exact h.cM
  · intro r hr j hj; rw [recol_old (own_lt (h.hpr r hr) hj).1]; exact h.cR r hr j hj
  · intro k r hr j hj; rw [recol_old (own_lt (h.hl r (List.mem_of_getElem? hr)) hj).1]; exact h.cL k r hr j hj
/-- A further list of outputs is appended to the list of puts: the row is there, of colour 3. -/
theorem RunM.addPut (h : RunM w0 B b ml o room v fs freed pv prow rows col w) {r : RowOf Int} (hr : OwnI w B r) (cr : ∀ j, r.val.ownBlock = some j → col j = 3) (u : Upd (fun j => pv.ownBlock = some j) w w') {g cap : Nat}
    (hp : w'.ownsRow B 26 1 (.slice (some ⟨g, 0, none⟩) (prow.length + 1) cap) (prow.length + 1) (prow.map RowOf.val ++ [r.val])) (hat : pv.ownBlock = some g ∨ w.heap.size ≤ g) :
    RunM w0 B b ml o room v fs freed (.slice (some ⟨g, 0, none⟩) (prow.length + 1) cap) (prow ++ [r]) rows (recol col w.heap.size 1) w' := by
  have n1 : ∀ g, col g ≠ 1 → ¬ pv.ownBlock = some g := fun g hg hs => hg (h.cP g hs)
  have hr' : OwnI w' B r := own_upd hr u (fun g hg => n1 g (by rw [cr g hg]; decide))
  refine ⟨h.hF.upd u (n1 _ (by rw [h.cF _ (.inl rfl)]; decide)) (fun g hg => n1 g (by rw [h.cF g (.inr hg)]; decide)), by rw [List.length_append, List.map_append]; exact hp, ?_, h.hm.upd u (n1 _ (by rw [h.cM]; decide)), ?_, h.ho, ?_, ?_, ?_, ?_, ?_, h.bm,
    Upd.below h.bel u h.hB (fun i hi => (own_lt h.hp hi).2), Nat.le_trans h.hB u.size⟩
  · intro q hq
    rcases List.mem_append.1 hq with hq | hq
    · exact own_upd (h.hpr q hq) u (fun g hg => n1 g (by rw [h.cR q hq g hg]; decide))
    · rw [List.mem_singleton.1 hq]; exact hr'
  · intro q hq
    obtain ⟨k, hk⟩ := List.mem_iff_getElem?.1 hq
    exact own_upd (h.hl q hq) u (fun g hg => n1 g (by rw [h.cL k q hk g hg]; omega))
  · intro j hj; rw [recol_old (h.hF.f_lt hj).1]; exact h.cF j hj
  · intro j hj
    simp [Value.ownBlock] at hj
    subst hj
    rcases hat with h1 | h1
    · rw [recol_old (own_lt h.hp h1).1]; exact h.cP _ h1
    · exact recol_new h1
  · rw [recol_old h.hm.lt]; exact h.cM
  · intro q hq j hj
    rcases List.mem_append.1 hq with hq | hq
    · rw [recol_old (own_lt (h.hpr q hq) hj).1]; exact h.cR q hq j hj
    · rw [List.mem_singleton.1 hq] at hj
      rw [recol_old (own_lt hr hj).1]; exact cr j hj
  · intro k q hk j hj; rw [recol_old (own_lt (h.hl q (List.mem_of_getElem? hk)) hj).1]; exact h.cL k q hk j hj
/-- A number is appended to the row of output k, and the row is stored. -/
theorem RunM.addLeft (h : RunM w0 B b ml o room v fs freed pv prow rows col w) {k : Nat} {r : RowOf Int} (hk : rows[k]? = some r) (x : Int) (u : Upd (fun j => r.val.ownBlock = some j) w w') {g cap : Nat}
    (hp : w'.ownsRow B 3 1 (.slice (some ⟨g, 0, none⟩) (r.xs.length + 1) cap) (r.xs.length + 1) (r.xs.map (Value.int .i64) ++ [.int .i64 x])) (hat : r.val.ownBlock = some g ∨ w.heap.size ≤ g) :
    RunM w0 B b ml o room v fs freed pv prow (rows.set k ⟨some ⟨g, 0, none⟩, cap, r.xs ++ [x]⟩) (recol col w.heap.size (4 + k)) (w'.setCell ⟨ml, k, none⟩ (.slice (some ⟨g, 0, none⟩) (r.xs.length + 1) cap)) := by
  have hrm := List.mem_of_getElem? hk
  have hkl := get_lt hk
  have n1 : ∀ j, col j ≠ 4 + k → ¬ r.val.ownBlock = some j := fun j hg hs => hg (h.cL k r hk j hs)
  have gml : g ≠ ml := by
    rcases hat with h1 | h1
    · intro e; have := h.cL k r hk g h1; rw [e, h.cM] at this; omega
    · have := h.hm.lt; omega
  have u2 : Upd (fun j => j = ml) w' (w'.setCell ⟨ml, k, none⟩ (.slice (some ⟨g, 0, none⟩) (r.xs.length + 1) cap)) := (Upd.refl _ _).setCell _ _ (fun _ => rfl)
  have n2 : ∀ j, col j ≠ 2 → ¬ j = ml := fun j hg e => hg (by rw [e]; exact h.cM)
  refine ⟨(h.hF.upd u (n1 _ (by rw [h.cF _ (.inl rfl)]; omega)) (fun g hg => n1 g (by rw [h.cF g (.inr hg)]; omega))).upd u2 (n2 _ (by rw [h.cF _ (.inl rfl)]; decide)) (fun g hg => n2 g (by rw [h.cF g (.inr hg)]; decide)),
    own_upd (own_upd h.hp u (fun g hg => n1 g (by rw [h.cP g hg]; omega))) u2 (fun g hg => n2 g (by rw [h.cP g hg]; decide)),
    fun q hq => own_upd (own_upd (h.hpr q hq) u (fun g hg => n1 g (by rw [h.cR q hq g hg]; omega))) u2 (fun g hg => n2 g (by rw [h.cR q hq g hg]; decide)), ?_, ?_, by rw [List.length_set]; exact h.ho, ?_, ?_, ?_, ?_, ?_, h.bm, ?_, ?_⟩
  · have h1 := (h.hm.upd u (n1 _ (by rw [h.cM]; omega))).set k (.slice (some ⟨g, 0, none⟩) (r.xs.length + 1) cap)
    rw [List.map_set]
    simpa [RowOf.val] using h1
  · intro q hq
    obtain ⟨i, hi⟩ := List.mem_iff_getElem?.1 hq
    rw [List.getElem?_set] at hi
    by_cases e : k = i
    · rw [if_pos e, if_pos hkl] at hi
      obtain rfl := Option.some.inj hi
      have h1 : OwnI w' B ⟨some ⟨g, 0, none⟩, cap, r.xs ++ [x]⟩ := by
        show World.ownsRow _ _ _ _ _ _ _
        simp only [RowOf.val, List.length_append, List.map_append, List.length_singleton, List.map_cons, List.map_nil]
        exact hp
      exact own_upd h1 u2 (fun j hj e => by simp [RowOf.val, Value.ownBlock] at hj; omega)
    · rw [if_neg e] at hi
      have hq' := List.mem_of_getElem? hi
      exact own_upd (own_upd (h.hl q hq') u (fun g hg => n1 g (by rw [h.cL i q hi g hg]; omega))) u2 (fun g hg => n2 g (by rw [h.cL i q hi g hg]; omega))
  · intro j hj; rw [recol_old (h.hF.f_lt hj).1]; exact h.cF j hj
  · intro j hj; rw [recol_old (own_lt h.hp hj).1]; exact h.cP j hj
  · rw [recol_old h.hm.lt]; exact h.cM
  · intro q hq j hj; rw [recol_old (own_lt (h.hpr q hq) hj).1]; exact h.cR q hq j hj
  · intro i q hi j hj
    rw [List.getElem?_set] at hi
    by_cases e : k = i
    · rw [if_pos e, if_pos hkl] at hi
      obtain rfl := Option.some.inj hi
      simp [RowOf.val, Value.ownBlock] at hj
      subst hj
      subst e
      rcases hat with h1 | h1
      · rw [recol_old (own_lt (h.hl r hrm) h1).1]; exact h.cL k r hk _ h1
      · exact recol_new h1
    · rw [if_neg e] at hi
      rw [recol_old (own_lt (h.hl q (List.mem_of_getElem? hi)) hj).1]; exact h.cL i q hi j hj
  · exact Upd.below (Upd.below h.bel u h.hB (fun i hi => (own_lt (h.hl r hrm) hi).2)) u2 (Nat.le_trans h.hB u.size) (fun i hi => by have := h.bm; omega)
  · have := u.size; have := u2.size; have := h.hB; omega
end
end Go.Proofs.Yteomiofmaopkhaa
