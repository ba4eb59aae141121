/-
  A map from offsets to bytes in memory.
-/
import Derived.Test.YtkaaoomliepijaaGreatQSlices
import Derived.Maps.OwnSet
import Derived.Maps.Views
namespace Go.Proofs.YtkaaoomliepijaaGreat
open Go.RowKit
set_option linter.unusedVariables false

/-- How many offsets below n are kept. -/
def cntR (F : Nat → Option Int) : Nat → Nat
  | 0 => 0
  | n + 1 => cntR F n + if (F n).isSome then 1 else 0
def updO (F : Nat → Option Int) (i : Nat) (x : Option Int) : Nat → Option Int := fun j => if j = i then x else F j
theorem cntR_le (F : Nat → Option Int) : ∀ n, cntR F n ≤ n
  | 0 => Nat.le_refl _
  | n + 1 => by have := cntR_le F n; unfold cntR; split <;> omega
theorem cntR_congr {F G : Nat → Option Int} : ∀ {n : Nat}, (∀ i < n, (F i).isSome = (G i).isSome) → cntR F n = cntR G n
  | 0, _ => rfl
  | n + 1, h => by
    unfold cntR
    rw [cntR_congr fun i hi => h i (by omega), h n (by omega)]
theorem cntR_upd (F : Nat → Option Int) (x : Option Int) : ∀ {n i : Nat}, i < n → cntR (updO F i x) n + (if (F i).isSome then 1 else 0) = cntR F n + if x.isSome then 1 else 0
  | n + 1, i, h => by
    unfold cntR
    by_cases e : i = n
    · subst e
      have h1 : cntR (updO F i x) i = cntR F i := cntR_congr fun j hj => by unfold updO; rw [if_neg (by omega)]
      have h2 : updO F i x i = x := by unfold updO; rw [if_pos rfl]
      rw [h1, h2]
      omega
    · have ih := cntR_upd F x (n := n) (i := i) (by omega)
      have h2 : updO F i x n = F n := by unfold updO; rw [if_neg (by omega)]
      rw [h2]
      omega
theorem cntR_zero {F : Nat → Option Int} : ∀ {n : Nat}, cntR F n = 0 → ∀ i < n, F i = none
  | n + 1, h, i, hi => by
    unfold cntR at h
    by_cases e : i = n
    · subst e
      cases hf : F i with
      | none => rfl
      | some x => rw [hf] at h; simp at h
    · exact cntR_zero (n := n) (by omega) i (by omega)
theorem off_wf {i : Nat} (h : i ≤ 100000) : (Lit.int .i64 (i : Int)).wf = true := by
  simp [Lit.wf, IntKind.min, IntKind.max, IntKind.signed, IntKind.bits]
  omega
theorem byte_wf {y : Int} (h0 : 0 ≤ y) (h1 : y ≤ 255) : (Lit.int .u8 y).wf = true := by
  simp [Lit.wf, IntKind.min, IntKind.max, IntKind.signed, IntKind.bits]
  omega
theorem off_key {i : Nat} (h : i ≤ 100000) : keyOf Tryz.prog 3 (.int .i64 (i : Int)) = some (.int .i64 (i : Int)) := Maps.keyOf_int_mk Tryz.underlying3 (off_wf h)
theorem off_keyed : Maps.Keyed Tryz.prog 3 := Maps.int_keyed Tryz.underlying3
theorem off_ne {i j : Nat} (h : j ≠ i) : (Lit.int .i64 (j : Int)) ≠ .int .i64 (i : Int) := fun e => by injection e with _ e; omega
theorem tight {H : Type} {w : World} {P : Program} {k : TypeId} {R : Value → Option (DataW H × List MemPlace)} {b n m : Nat} {D : DataW H} (h : w.ownsMap P k R b n D) (hm : Maps.size D ≤ m) : w.ownsMap P k R b m D := by
  obtain ⟨es, clock, hb, F, hs, rfl⟩ := h
  refine ⟨es, clock, hb, F, ?_, rfl⟩
  simp [Maps.size, length_sorted] at hm
  omega
/-- Block b is a map that keeps the bytes F, at offsets below 4096. -/
def MbAt (w : World) (b : Nat) (F : Nat → Option Int) : Prop :=
  ∃ D : DataW Unit, w.ownsMap Tryz.prog 3 (plainElem (H := Unit) Tryz.prog 5) b 4096 D ∧ (∀ kl, Maps.has D kl = true → ∃ i : Nat, i < 4096 ∧ kl = .int .i64 (i : Int)) ∧ Maps.size D = cntR F 4096 ∧
    ∀ i : Nat, i < 4096 → Maps.has D (.int .i64 (i : Int)) = (F i).isSome ∧ D.atKey (.int .i64 (i : Int)) (.lit (.int .u8 0)) = .lit (.int .u8 ((F i).getD 0))
section
variable {w w' : World} {b n : Nat} {F : Nat → Option Int} {S : Nat → Prop}
theorem MbAt.lt (h : MbAt w b F) : b < w.heap.size := by obtain ⟨D, h1, -⟩ := h; exact h1.lt
theorem MbAt.upd (h : MbAt w b F) (u : Upd S w w') (hs : ¬ S b) : MbAt w' b F := by
  obtain ⟨D, ⟨es, clock, hb, r⟩, h2⟩ := h
  exact ⟨D, ⟨es, clock, (u.block b (Array.getElem?_eq_some_iff.1 hb).1 hs).trans hb, r⟩, h2⟩
theorem MbAt.below (h : MbAt w b F) (u : Below w.heap.size w w') : MbAt w' b F := h.upd (Upd.of_below (S := fun _ => False) u) id
theorem cntR_none (n : Nat) : cntR (fun _ => none) n = 0 := by
  induction n with
  | zero => rfl
  | succ n ih => unfold cntR; rw [ih]; rfl
theorem MbAt.made (w : World) : MbAt (w.alloc (.map #[] 0)) w.heap.size fun _ => none :=
  ⟨.map [], (World.ownsMap_made _ _ _ _).mono (by omega), (fun kl h => by cases h), (by rw [cntR_none]; rfl), fun i hi => ⟨rfl, rfl⟩⟩
theorem by_zero (w : World) : (zeroValue 5).run Tryz.prog w = .ok (.int .u8 0) w := by
  have h := Tryz.infoByte
  cases hi : Tryz.prog.info? 5 with
  | none => rw [hi] at h; cases h
  | some i =>
    rw [hi] at h
    simp at h
    simp [zeroValue, typeInfo, hi, h.1, go_sem]
theorem byR_zero : (plainElem (H := Unit) Tryz.prog 5) (.int .u8 0) = some (.lit (.int .u8 0), []) := plainElem_int Tryz.underlying5 (byte_wf (by decide) (by decide))
theorem byR_inv {v : Value} {y : Int} {ps : List MemPlace} (h : (plainElem (H := Unit) Tryz.prog 5) v = some (.lit (.int .u8 y), ps)) : v = .int .u8 y := by
  obtain ⟨c, rfl, hc, _⟩ := plainElem_int_inv Tryz.underlying5 h
  simp only [Prod.mk.injEq, DataW.lit.injEq, Lit.int.injEq, true_and] at hc
  rw [hc.1]
/-- A look, with the word whether it is there. -/
theorem MbAt.look (h : MbAt w b F) {i : Nat} (hi : i < 4096) : (Instr.lookup 125 (.map (some b)) (.int .i64 (i : Int)) true).run Tryz.prog w = .ok (.tuple #[.int .u8 ((F i).getD 0), .bool (F i).isSome]) w := by
  obtain ⟨D, h1, _, _, h2⟩ := h
  obtain ⟨g1, g2⟩ := h2 i hi
  obtain ⟨v, ps, hr, hv⟩ := h1.look_ok off_keyed Tryz.underlying125 (by_zero w) byR_zero (off_key (by omega : i ≤ 100000))
  rw [g1] at hr
  rw [g2] at hv
  rw [byR_inv hv] at hr
  exact hr
theorem MbAt.get (h : MbAt w b F) {i : Nat} (hi : i < 4096) : (Instr.lookup 125 (.map (some b)) (.int .i64 (i : Int)) false).run Tryz.prog w = .ok (.int .u8 ((F i).getD 0)) w := by
  obtain ⟨D, h1, _, _, h2⟩ := h
  obtain ⟨g1, g2⟩ := h2 i hi
  obtain ⟨v, ps, hr, hv⟩ := h1.lookup off_keyed Tryz.underlying125 (by_zero w) byR_zero (off_key (by omega : i ≤ 100000))
  rw [g2] at hv
  rw [byR_inv hv] at hr
  exact hr
theorem MbAt.len (h : MbAt w b F) (ty : TypeId) : (Builtin.len_ #[125] ty #[.map (some b)]).run Tryz.prog w = .ok (.int .i64 (cntR F 4096)) w := by
  obtain ⟨D, h1, _, hs, _⟩ := h
  rw [← hs]
  exact h1.len Tryz.underlying125 ty
theorem mapTurned_upd {b : Nat} (h : w.mapTurned w' b) : Upd (fun k => k = b) w w' := by
  obtain ⟨es, clock, es', clock', hb, rfl⟩ := h
  exact ⟨rfl, rfl, rfl, by simp [Go.ChangeMaps.setBlock], fun i hi hne => Go.ChangeMaps.heap_setBlock_other hb _ hne⟩
theorem MbAt.store (h : MbAt w b F) {i : Nat} (hi : i < 4096) {y : Int} (h0 : 0 ≤ y) (h1 : y ≤ 255) :
    ∃ w', (Instr.mapUpdate 125 (.map (some b)) (.int .i64 (i : Int)) (.int .u8 y)).run Tryz.prog w = .ok () w' ∧ MbAt w' b (updO F i (some y)) ∧ Upd (fun k => k = b) w w' := by
  obtain ⟨D, g1, gk, gs, g2⟩ := h
  obtain ⟨w', hr, ho, ht⟩ := g1.store off_keyed Tryz.underlying125 (by unfold maxLen; omega) (off_key (by omega : i ≤ 100000)) (plainElem_int Tryz.underlying5 (byte_wf h0 h1))
  have hk := off_keyed.key (off_key (by omega : i ≤ 100000))
  have hsz : Maps.size (D.put (.int .i64 (i : Int)) (.lit (.int .u8 y))) = cntR (updO F i (some y)) 4096 := by
    rw [Maps.size_put (g1.tidy off_keyed), (g2 i hi).1, gs]
    have := cntR_upd F (some y) hi
    simp only [Option.isSome_some, if_true] at this
    split <;> simp_all <;> omega
  refine ⟨w', hr, ⟨_, tight ho (by rw [hsz]; exact cntR_le _ _), fun kl hkl => ?_, hsz, fun j hj => ?_⟩, mapTurned_upd ht⟩
  · by_cases e : kl = .int .i64 (i : Int)
    · exact ⟨i, hi, e⟩
    · rw [Maps.has_put_other e] at hkl; exact gk kl hkl
  · unfold updO
    by_cases e : j = i
    · subst e
      rw [if_pos rfl]
      exact ⟨Maps.has_put_same g1.isMap hk _, Maps.atKey_put_same g1.isMap hk _ _⟩
    · rw [if_neg e, Maps.has_put_other (off_ne e), Maps.atKey_put_other (off_ne e)]
      exact g2 j hj
theorem MbAt.drop (h : MbAt w b F) {i : Nat} (hi : i < 4096) (ty : TypeId) :
    ∃ w', (Builtin.delete_ #[125, 3] ty #[.map (some b), .int .i64 (i : Int)]).run Tryz.prog w = .ok (.tuple #[]) w' ∧ MbAt w' b (updO F i none) ∧ Upd (fun k => k = b) w w' := by
  obtain ⟨D, g1, gk, gs, g2⟩ := h
  obtain ⟨w', hr, ho, ht⟩ := g1.drop off_keyed Tryz.underlying125 (off_key (by omega : i ≤ 100000)) ty
  have hsz : Maps.size (D.del (.int .i64 (i : Int))) = cntR (updO F i none) 4096 := by
    have e1 := Maps.size_del (k := .int .i64 (i : Int)) (g1.tidy off_keyed)
    rw [(g2 i hi).1, gs] at e1
    have := cntR_upd F none hi
    simp only [Option.isSome_none] at this
    split at e1 <;> simp_all <;> omega
  refine ⟨w', hr, ⟨_, ho, fun kl hkl => ?_, hsz, fun j hj => ?_⟩, mapTurned_upd ht⟩
  · by_cases e : kl = .int .i64 (i : Int)
    · rw [e, Maps.has_del_same] at hkl; cases hkl
    · rw [Maps.has_del_other e] at hkl; exact gk kl hkl
  · unfold updO
    by_cases e : j = i
    · subst e
      rw [if_pos rfl]
      exact ⟨Maps.has_del_same, Maps.atKey_del_same _⟩
    · rw [if_neg e, Maps.has_del_other (off_ne e), Maps.atKey_del_other (off_ne e)]
      exact g2 j hj
theorem mb_nblk {T : TypeId} {xs : List Value} (h : Blk w b T xs) {m : Nat} (hM : MbAt w m F) : b ≠ m := fun e => by
  subst e
  obtain ⟨D, ⟨es, clock, hb, _⟩, _⟩ := hM
  unfold Blk at h
  rw [h] at hb
  simp at hb
end
end Go.Proofs.YtkaaoomliepijaaGreat
