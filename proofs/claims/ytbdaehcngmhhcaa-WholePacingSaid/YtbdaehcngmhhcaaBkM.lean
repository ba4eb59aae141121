/-
  The memory of admit's Books: the links' capacities and what they have left; the map of the reservations.
-/
import Derived.Test.YtbdaehcngmhhcaaCand
import Derived.Maps.OwnSet
import Derived.Maps.Views
namespace Go.Proofs.Ytbdaehcngmhhcaa
open Go.RowKit
set_option linter.unusedVariables false

/-- A reservation: a row of links in block g, and a rate. -/
structure Rs where
  g : Nat
  n : Nat
  c : Nat
  rt : Rq
def rsV (x : Rs) : Value := .agg #[.slice (some ⟨x.g, 0, none⟩) x.n x.c, .int .i64 x.rt.n, .int .i64 x.rt.d]
def rsZ : Value := .agg #[.slice none 0 0, .int .i64 0, .int .i64 0]
def rsD (x : Rs) : DataW Unit := .agg [.lit (.int .i64 x.g), .lit (.int .i64 x.n), .lit (.int .i64 x.c), .lit (.int .i64 x.rt.n), .lit (.int .i64 x.rt.d)]
/-- How a reservation reads. -/
def rsR (v : Value) : Option (DataW Unit × List MemPlace) :=
  match v with
  | .agg cs => match cs.toList with
    | [.slice (some ⟨g, 0, none⟩) n c, .int .i64 x, .int .i64 y] => some (rsD ⟨g, n, c, ⟨x, y⟩⟩, [])
    | [.slice none 0 0, .int .i64 0, .int .i64 0] => some (.agg [], [])
    | _ => none
  | _ => none
theorem rsR_mk (x : Rs) : rsR (rsV x) = some (rsD x, []) := rfl
theorem rsR_zero : rsR rsZ = some (.agg [], []) := rfl
theorem rsR_inv {v : Value} {x : Rs} {ps : List MemPlace} (h : rsR v = some (rsD x, ps)) : v = rsV x := by
  unfold rsR at h
  split at h
  · rename_i cs
    split at h
    · rename_i g n c y z e
      unfold rsD at h
      injection h with h
      injection h with h _
      injection h with h
      simp at h
      obtain ⟨h1, h2, h3, h4, h5⟩ := h
      obtain ⟨xg, xn, xc, xr1, xr2⟩ := x
      dsimp only at *
      obtain rfl : g = xg := by omega
      obtain rfl : n = xn := by omega
      obtain rfl : c = xc := by omega
      subst h4 h5
      unfold rsV
      exact congrArg Value.agg (Array.toList_inj.1 e)
    · unfold rsD at h
      injection h with h
      injection h with h _
      injection h with h
      simp at h
    · cases h
  · cases h
theorem rsR_inv0 {v : Value} {ps : List MemPlace} (h : rsR v = some (.agg [], ps)) : v = rsZ := by
  unfold rsR at h
  split at h
  · rename_i cs
    split at h
    · unfold rsD at h
      injection h with h
      injection h with h _
      injection h with h
      simp at h
    · rename_i e
      unfold rsZ
      exact congrArg Value.agg (Array.toList_inj.1 e)
    · cases h
  · cases h
theorem id_wf {i : Nat} (h : i ≤ 1000) : (Lit.int .i64 (i : Int)).wf = true := by
  simp [Lit.wf, IntKind.min, IntKind.max, IntKind.signed, IntKind.bits]
  omega
theorem id_key {i : Nat} (h : i ≤ 1000) : keyOf Try.prog 3 (.int .i64 (i : Int)) = some (.int .i64 (i : Int)) := Maps.keyOf_int_mk Try.underlying3 (id_wf h)
theorem id_keyed : Maps.Keyed Try.prog 3 := Maps.int_keyed Try.underlying3
theorem Try.infoRs : (Try.prog.info? 95).map (fun i => (i.zero, i.size)) = some (some rsZ, 3) := by kernel_rfl
/-- Block b is the map of the reservations F, of at most n entries. -/
def RsAt (w : World) (b n : Nat) (F : Nat → Option Rs) : Prop :=
  ∃ D : DataW Unit, w.ownsMap Try.prog 3 rsR b n D ∧ ∀ i : Nat, i ≤ 1000 → Maps.has D (.int .i64 (i : Int)) = (F i).isSome ∧ D.atKey (.int .i64 (i : Int)) (.agg []) = match F i with | some x => rsD x | none => .agg []
section
variable {w w' : World} {b n : Nat} {F : Nat → Option Rs} {S : Nat → Prop}
theorem RsAt.lt (h : RsAt w b n F) : b < w.heap.size := by obtain ⟨D, h1, -⟩ := h; exact h1.lt
theorem RsAt.upd (h : RsAt w b n F) (u : Upd S w w') (hs : ¬ S b) : RsAt w' b n F := by
  obtain ⟨D, ⟨es, clock, hb, r⟩, h2⟩ := h
  exact ⟨D, ⟨es, clock, (u.block b (Array.getElem?_eq_some_iff.1 hb).1 hs).trans hb, r⟩, h2⟩
theorem RsAt.below (h : RsAt w b n F) (u : Below w.heap.size w w') : RsAt w' b n F := h.upd (Upd.of_below (S := fun _ => False) u) id
theorem RsAt.made (w : World) : RsAt (w.alloc (.map #[] 0)) w.heap.size 0 fun _ => none := ⟨.map [], World.ownsMap_made _ _ _ _, fun i hi => ⟨rfl, rfl⟩⟩
def rsW (F : Nat → Option Rs) (i : Nat) : Value := match F i with | some x => rsV x | none => rsZ
theorem rs_zero (w : World) : (zeroValue 95).run Try.prog w = .ok rsZ w := by
  have h := Try.infoRs
  cases hi : Try.prog.info? 95 with
  | none => rw [hi] at h; cases h
  | some i =>
    rw [hi] at h
    simp at h
    simp [zeroValue, typeInfo, hi, h.1, go_sem]
theorem RsAt.look (h : RsAt w b n F) {i : Nat} (hi : i ≤ 1000) : (Instr.lookup 84 (.map (some b)) (.int .i64 (i : Int)) true).run Try.prog w = .ok (.tuple #[rsW F i, .bool (F i).isSome]) w := by
  obtain ⟨D, h1, h2⟩ := h
  obtain ⟨g1, g2⟩ := h2 i hi
  obtain ⟨v, ps, hr, hv⟩ := h1.look_ok id_keyed Try.underlying84 (rs_zero w) rsR_zero (id_key hi)
  rw [g1] at hr
  rw [g2] at hv
  have : v = rsW F i := by
    unfold rsW
    cases hF : F i with
    | some x => rw [hF] at hv; exact rsR_inv hv
    | none => rw [hF] at hv; exact rsR_inv0 hv
  rw [← this]
  exact hr
theorem mapTurned_upd {b : Nat} (h : w.mapTurned w' b) : Upd (fun k => k = b) w w' := by
  obtain ⟨es, clock, es', clock', hb, rfl⟩ := h
  exact ⟨rfl, rfl, rfl, by simp [Go.ChangeMaps.setBlock], fun i hi hne => Go.ChangeMaps.heap_setBlock_other hb _ hne⟩
def updF (F : Nat → Option Rs) (i : Nat) (x : Option Rs) : Nat → Option Rs := fun j => if j = i then x else F j
theorem id_ne {i j : Nat} (h : j ≠ i) : (Lit.int .i64 (j : Int)) ≠ .int .i64 (i : Int) := fun e => by injection e with _ e; omega
theorem RsAt.put {D : DataW Unit} {i : Nat} {x : Rs} (h : w'.ownsMap Try.prog 3 rsR b (n + 1) (D.put (.int .i64 (i : Int)) (rsD x))) (hm : Maps.IsMap D) (hi : i ≤ 1000)
    (h2 : ∀ i : Nat, i ≤ 1000 → Maps.has D (.int .i64 (i : Int)) = (F i).isSome ∧ D.atKey (.int .i64 (i : Int)) (.agg []) = match F i with | some x => rsD x | none => .agg []) : RsAt w' b (n + 1) (updF F i (some x)) := by
  refine ⟨_, h, fun j hj => ?_⟩
  unfold updF
  by_cases e : j = i
  · subst e
    rw [if_pos rfl]
    exact ⟨Maps.has_put_same hm (id_keyed.key (id_key hi)) _, Maps.atKey_put_same hm (id_keyed.key (id_key hi)) _ _⟩
  · rw [if_neg e, Maps.has_put_other (id_ne e), Maps.atKey_put_other (id_ne e)]
    exact h2 j hj
theorem RsAt.store (h : RsAt w b n F) (hn : n < maxLen) {i : Nat} (hi : i ≤ 1000) (x : Rs) :
    ∃ w', (Instr.mapUpdate 84 (.map (some b)) (.int .i64 (i : Int)) (rsV x)).run Try.prog w = .ok () w' ∧ RsAt w' b (n + 1) (updF F i (some x)) ∧ Upd (fun k => k = b) w w' := by
  obtain ⟨D, h1, h2⟩ := h
  obtain ⟨w', hr, ho, ht⟩ := h1.store id_keyed Try.underlying84 hn (id_key hi) (rsR_mk x)
  exact ⟨w', hr, .put ho h1.isMap hi h2, mapTurned_upd ht⟩
theorem RsAt.drop (h : RsAt w b n F) {i : Nat} (hi : i ≤ 1000) (ty : TypeId) :
    ∃ w', (Builtin.delete_ #[84, 3] ty #[.map (some b), .int .i64 (i : Int)]).run Try.prog w = .ok (.tuple #[]) w' ∧ RsAt w' b n (updF F i none) ∧ Upd (fun k => k = b) w w' := by
  obtain ⟨D, h1, h2⟩ := h
  obtain ⟨w', hr, ho, ht⟩ := h1.drop id_keyed Try.underlying84 (id_key hi) ty
  refine ⟨w', hr, ⟨_, ho, fun j hj => ?_⟩, mapTurned_upd ht⟩
  unfold updF
  by_cases e : j = i
  · subst e
    rw [if_pos rfl]
    exact ⟨Maps.has_del_same, Maps.atKey_del_same _⟩
  · rw [if_neg e, Maps.has_del_other (id_ne e), Maps.atKey_del_other (id_ne e)]
    exact h2 j hj
end
/-- A link: its capacity, what it has left. -/
structure Lk where
  cp : Rq
  lf : Rq
def lkC (x : Lk) : List Value := [.int .i64 x.cp.n, .int .i64 x.cp.d, .int .i64 x.lf.n, .int .i64 x.lf.d, .bool true]
theorem lkC_len (x : Lk) : (lkC x).length = 5 := rfl
def lkF (n : Nat) (cp lf : Nat → Rq) : List Lk := (List.range n).map fun l => ⟨cp l, lf l⟩
theorem lkF_get {n l : Nat} (cp lf : Nat → Rq) (h : l < n) : (lkF n cp lf)[l]? = some ⟨cp l, lf l⟩ := by unfold lkF; simp [h]
theorem lkF_len (n : Nat) (cp lf : Nat → Rq) : (lkF n cp lf).length = n := by unfold lkF; simp
/-- The books, made behind w. -/
structure BkAt (w wr : World) (bb mb n : Nat) (la : Option Addr) (lc : Nat) (cp lf : Nat → Rq) (k : Nat) (F : Nat → Option Rs) : Prop where
  b_ : w.heap.size ≤ bb
  m_ : w.heap.size ≤ mb
  b : Blk wr bb 87 [.slice la n lc, .map (some mb)]
  l : wr.ownsRow w.heap.size 89 5 (.slice la n lc) n (flC lkC (lkF n cp lf))
  m : RsAt wr mb k F
  u : Below w.heap.size w wr
theorem Blk.tyB {w : World} {b : Nat} {T T' : TypeId} {xs ys : List Value} (h : Blk w b T xs) (h' : Blk w b T' ys) : T = T' := by
  unfold Blk at h h'
  rw [h] at h'
  simp at h'
  exact h'.2
theorem own_ne {w : World} {b s n bb : Nat} {T T' : TypeId} {v : Value} {xs ys : List Value} (h : w.ownsRow b T s v n xs) (hB : Blk w bb T' ys) (hT : T ≠ T') : v.ownBlock ≠ some bb := by
  obtain ⟨_, h⟩ := h
  rcases h with ⟨rfl, _⟩ | ⟨g, cap, cur, rfl, hg, hh, _⟩
  · simp [Value.ownBlock]
  · intro e
    simp [Value.ownBlock] at e
    subst e
    unfold Blk at hB
    rw [hB] at hh
    simp at hh
    exact hT hh.2.symm
theorem own_nm {w : World} {b s n mb k : Nat} {T : TypeId} {v : Value} {xs : List Value} {F : Nat → Option Rs} (h : w.ownsRow b T s v n xs) (hM : RsAt w mb k F) : v.ownBlock ≠ some mb := by
  obtain ⟨_, h⟩ := h
  obtain ⟨D, ⟨es, clock, hb, _⟩, _⟩ := hM
  rcases h with ⟨rfl, _⟩ | ⟨g, cap, cur, rfl, hg, hh, _⟩
  · simp [Value.ownBlock]
  · intro e
    simp [Value.ownBlock] at e
    subst e
    rw [hb] at hh
    simp at hh
theorem blk_nm {w : World} {b mb k : Nat} {T : TypeId} {xs : List Value} {F : Nat → Option Rs} (h : Blk w b T xs) (hM : RsAt w mb k F) : b ≠ mb := fun e => by
  subst e
  obtain ⟨D, ⟨es, clock, hb, _⟩, _⟩ := hM
  unfold Blk at h
  rw [h] at hb
  simp at hb
theorem lkF_succ (n : Nat) (cp lf : Nat → Rq) : lkF (n + 1) cp lf = lkF n cp lf ++ [⟨cp n, lf n⟩] := by
  unfold lkF
  rw [List.range_succ, List.map_append]
  rfl
section
variable {w wr w' : World} {bb mb n k : Nat} {la : Option Addr} {lc : Nat} {cp lf : Nat → Rq} {F : Nat → Option Rs}
theorem BkAt.ne (h : BkAt w wr bb mb n la lc cp lf k F) : bb ≠ mb ∧ (Value.slice la n lc).ownBlock ≠ some bb ∧ (Value.slice la n lc).ownBlock ≠ some mb := ⟨blk_nm h.b h.m, own_ne h.l h.b (by decide), own_nm h.l h.m⟩
theorem BkAt.upd (h : BkAt w wr bb mb n la lc cp lf k F) {S : Nat → Prop} (q : Upd S wr w') (hS : ∀ i, S i → w.heap.size ≤ i ∧ i ≠ bb ∧ i ≠ mb ∧ (Value.slice la n lc).ownBlock ≠ some i) : BkAt w w' bb mb n la lc cp lf k F :=
  ⟨h.b_, h.m_, h.b.upd q (fun e => (hS _ e).2.1 rfl), own_upd h.l q (fun g hg e => (hS g e).2.2.2 hg), h.m.upd q (fun e => (hS _ e).2.2.1 rfl), Upd.below h.u q (by have := h.b_; have := h.b.lt; omega) (fun i hi => (hS i hi).1)⟩
theorem BkAt.below (h : BkAt w wr bb mb n la lc cp lf k F) (q : Below wr.heap.size wr w') : BkAt w w' bb mb n la lc cp lf k F := h.upd (S := fun _ => False) (Upd.of_below q) (fun _ => False.elim)
/-- A block made behind wr is written. -/
theorem BkAt.far (h : BkAt w wr bb mb n la lc cp lf k F) {S : Nat → Prop} (q : Upd S wr w') (hS : ∀ i, S i → wr.heap.size ≤ i) : BkAt w w' bb mb n la lc cp lf k F :=
  h.upd q (fun i hi => by
    have h1 := hS i hi
    have h2 := h.b_
    have h3 := h.b.lt
    have h4 := h.m.lt
    exact ⟨by omega, by omega, by omega, fun e => by have := (own_lt h.l e).1; omega⟩)
theorem BkAt.push (h : BkAt w wr bb mb n la lc cp lf k F) {la' : Option Addr} {lc' : Nat} (hown : w'.ownsRow w.heap.size 89 5 (.slice la' (n + 1) lc') (n + 1) (flC lkC (lkF n cp lf) ++ lkC ⟨cp n, lf n⟩))
    (hgr : wr.grownBy w' (Value.slice la n lc).ownBlock) : BkAt w (w'.setCell ⟨bb, 0, none⟩ (.slice la' (n + 1) lc')) bb mb (n + 1) la' lc' cp lf k F := by
  obtain ⟨n1, n2, n3⟩ := h.ne
  have q := Upd.of_grownV hgr
  have B := h.b.upd q n2
  have M := h.m.upd q n3
  have hz := B.lt
  have hbd : Below w.heap.size w w' := Upd.below h.u q (by have := h.b_; have := h.b.lt; omega) (fun i hi => (own_lt h.l hi).2)
  have q2 : Upd (fun k => k = bb) w' (w'.setCell ⟨bb, 0, none⟩ (.slice la' (n + 1) lc')) := (Upd.refl _ _).setCell _ _ (fun _ => rfl)
  refine ⟨h.b_, h.m_, B.set 0 _, ?_, M.upd q2 (fun e => n1 e.symm), hbd.setCell h.b_ _⟩
  rw [lkF_succ, flC_append, flC_one]
  exact own_upd hown q2 (fun g hg e => own_ne hown B (by decide) (by rw [hg, e]))
end
end Go.Proofs.Ytbdaehcngmhhcaa
