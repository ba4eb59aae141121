/-
  switchbox: the memory of a Step under way.
-/
import Derived.Test.YtkooihniieepcaaSwK
namespace Go.Proofs.Ytkooihniieepcaa
open Go.RowKit
set_option linter.unusedVariables false

inductive KR where
  | hb | mb | fb | tb (t : Bool) | mv | fr | mt | rw (t : Bool) (i : Nat)
  deriving DecidableEq
/-- Where the local variables of Step lie, and what they hold. -/
structure KL where
  hb : Nat
  mb : Nat
  fb : Nat
  tb : Bool → Nat
  tv : Bool → Nat → Value
  mvv : Value
  frv : Value
  mt : Option (Nat × List Value)
def kC (P K bb : Nat) (x : Bool → Nat → List Int) (l : KL) (s : SS) : KR → Option Pc
  | .hb => some (.blk l.hb 26 [.pointer (some ⟨bb, 0, none⟩)])
  | .mb => some (.blk l.mb 29 [l.mvv])
  | .fb => some (.blk l.fb 30 [l.frv])
  | .tb t => some (.blk (l.tb t) 84 ((List.range 8).map (l.tv t)))
  | .mv => some (.row l.mvv 34 3 s.mv.length (flC mvC s.mv))
  | .fr => some (.row l.frv 39 6 s.fr.length (flC frC s.fr))
  | .mt => l.mt.map fun x => .blk x.1 3 x.2
  | .rw t i => if i < P then some (.row (l.tv t i) 3 1 (x t i).length ((x t i).map (Value.int .i64))) else none
/-- The box beside the local variables. -/
structure SkAt (W : World) (base P K : Nat) (L0 : Loc) (M0 : Md) (x : Bool → Nat → List Int) (L : Loc) (l : KL) (s : SS) (w : World) : Prop where
  bx : BxPost W base P K L0 M0 L s.M w
  lo : St w W.heap.size (kC P K L.bb x l s)
  ap : ∀ k, boxS P K L s.M k → ¬ ftC (kC P K L.bb x l s) k
  bbe : L.bb = L0.bb
section
variable {W w w' w2 : World} {base P K : Nat} {L0 L L' : Loc} {M0 M' : Md} {x : Bool → Nat → List Int} {l : KL} {s : SS}
theorem SkAt.below (h : SkAt W base P K L0 M0 x L l s w) (q : Below w.heap.size w w') : SkAt W base P K L0 M0 x L l s w' := ⟨h.bx.post q, h.lo.below q, h.ap, h.bbe⟩
/-- The box has turned. -/
theorem SkAt.box (h : SkAt W base P K L0 M0 x L l s w) (hb : L'.bb = L.bb) (q : BxPost w base P K L s.M L' M' w') : SkAt W base P K L0 M0 x L' l ⟨M', s.mv, s.fr⟩ w' := by
  have e : kC P K L'.bb x l ⟨M', s.mv, s.fr⟩ = kC P K L.bb x l s := by rw [hb]; rfl
  refine ⟨h.bx.trans q, ?_, ?_, hb.trans h.bbe⟩
  · rw [e]
    exact h.lo.upd q.2.1 fun k hk hs => h.ap k hs hk
  · rw [e]
    intro k hk hf
    rcases q.2.2 k hk with h1 | h1
    · exact h.ap k h1 hf
    · have := (h.lo.lt hf).2
      omega
/-- What is local has turned. -/
theorem SkAt.loc {l' : KL} {s' : SS} {S : Nat → Prop} (h : SkAt W base P K L0 M0 x L l s w) (hm : s'.M = s.M) (u : Upd S w w') (hS : ∀ k, S k → ftC (kC P K L.bb x l s) k ∨ w.heap.size ≤ k) (hl : St w' W.heap.size (kC P K L.bb x l' s')) (hf : ∀ k, ftC (kC P K L.bb x l' s') k → ftC (kC P K L.bb x l s) k ∨ w.heap.size ≤ k) : SkAt W base P K L0 M0 x L l' s' w' := by
  have hW := h.bx.2.1.size
  refine ⟨?_, hl, ?_, h.bbe⟩
  · rw [hm]
    refine h.bx.upd u fun k hk => ?_
    rcases hS k hk with h1 | h1
    · exact ⟨(h.lo.lt h1).1, fun h2 => h.ap k h2 h1⟩
    · exact ⟨by omega, fun h2 => by have := (h.bx.1.lt h2).2; omega⟩
  · rw [hm]
    intro k hk h2
    rcases hf k h2 with h1 | h1
    · exact h.ap k hk h1
    · have := (h.bx.1.lt hk).2
      omega
/-- A move is appended: the row has grown to v', the cell is stored. -/
theorem SkAt.pushM (h : SkAt W base P K L0 M0 x L l s w) {m : Mv} {v' : Value} (ho : w2.ownsRow W.heap.size 34 3 v' (s.mv.length + 1) (flC mvC s.mv ++ mvC m)) (gr : w.grownBy w2 l.mvv.ownBlock) (hv : v'.ownBlock = l.mvv.ownBlock ∨ v'.ownBlock = some w.heap.size) :
    SkAt W base P K L0 M0 x L { l with mvv := v' } ⟨s.M, s.mv ++ [m], s.fr⟩ (w2.setCell ⟨l.mb, 0, none⟩ v') := by
  have hr : kC P K L.bb x l s .mv = some (.row l.mvv 34 3 s.mv.length (flC mvC s.mv)) := rfl
  have hr2 : kC P K L.bb x l s .mb = some (.blk l.mb 29 [l.mvv]) := rfl
  have u := Upd.of_grownV gr
  have s1 := h.lo.put .mv (.row v' 34 3 (s.mv.length + 1) (flC mvC s.mv ++ mvC m)) u (fun k hk _ => ⟨_, hr, hk⟩) ho (fun k hk => by
    have hk' : v'.ownBlock = some k := hk
    rcases hv with e | e
    · exact .inl ⟨_, hr, by rw [← hk', e]; rfl⟩
    · right
      rw [e] at hk'
      cases hk'
      exact Nat.le_refl _)
  have s2 := s1.store (r := .mb) (k := l.mb) (T := 29) (l := [l.mvv]) (i := 0) (v := v') (l' := [v']) (by rw [setC_ne _ _ (by intro e; cases e)]; rfl) rfl
  have ee : ∀ r, setC (setC (kC P K L.bb x l s) .mv (.row v' 34 3 (s.mv.length + 1) (flC mvC s.mv ++ mvC m))) .mb (.blk l.mb 29 [v']) r = kC P K L.bb x { l with mvv := v' } ⟨s.M, s.mv ++ [m], s.fr⟩ r := fun r => by
    cases r <;> first | rfl | skip
    show some (Pc.row v' _ 3 (s.mv.length + 1) (flC mvC s.mv ++ mvC m)) = some (Pc.row v' _ 3 (s.mv ++ [m]).length (flC mvC (s.mv ++ [m])))
    rw [List.length_append, flC_append, flC_one]
    rfl
  refine h.loc rfl ((u.mono (T := fun k => ftC (kC P K L.bb x l s) k) fun k _ hk => ⟨_, _, hr, hk⟩).setCell ⟨l.mb, 0, none⟩ v' fun _ => ⟨_, _, hr2, rfl⟩) (fun k hk => .inl hk) (s2.congr ee) fun k hk => ?_
  rcases ftC_set (ftC_congr ee hk) with h1 | h1
  · rcases ftC_set h1 with h1 | h1
    · exact .inl h1
    · have hk' : v'.ownBlock = some k := h1
      rcases hv with e | e
      · exact .inl ⟨_, _, hr, by rw [← hk', e]; rfl⟩
      · right
        rw [e] at hk'
        cases hk'
        exact Nat.le_refl _
  · exact .inl ⟨_, _, hr2, h1⟩
/-- A frame is appended. -/
theorem SkAt.pushF (h : SkAt W base P K L0 M0 x L l s w) {f : Fr} {v' : Value} (ho : w2.ownsRow W.heap.size 39 6 v' (s.fr.length + 1) (flC frC s.fr ++ frC f)) (gr : w.grownBy w2 l.frv.ownBlock) (hv : v'.ownBlock = l.frv.ownBlock ∨ v'.ownBlock = some w.heap.size) :
    SkAt W base P K L0 M0 x L { l with frv := v' } ⟨s.M, s.mv, s.fr ++ [f]⟩ (w2.setCell ⟨l.fb, 0, none⟩ v') := by
  have hr : kC P K L.bb x l s .fr = some (.row l.frv 39 6 s.fr.length (flC frC s.fr)) := rfl
  have hr2 : kC P K L.bb x l s .fb = some (.blk l.fb 30 [l.frv]) := rfl
  have u := Upd.of_grownV gr
  have s1 := h.lo.put .fr (.row v' 39 6 (s.fr.length + 1) (flC frC s.fr ++ frC f)) u (fun k hk _ => ⟨_, hr, hk⟩) ho (fun k hk => by
    have hk' : v'.ownBlock = some k := hk
    rcases hv with e | e
    · exact .inl ⟨_, hr, by rw [← hk', e]; rfl⟩
    · right
      rw [e] at hk'
      cases hk'
      exact Nat.le_refl _)
  have s2 := s1.store (r := .fb) (k := l.fb) (T := 30) (l := [l.frv]) (i := 0) (v := v') (l' := [v']) (by rw [setC_ne _ _ (by intro e; cases e)]; rfl) rfl
  have ee : ∀ r, setC (setC (kC P K L.bb x l s) .fr (.row v' 39 6 (s.fr.length + 1) (flC frC s.fr ++ frC f))) .fb (.blk l.fb 30 [v']) r = kC P K L.bb x { l with frv := v' } ⟨s.M, s.mv, s.fr ++ [f]⟩ r := fun r => by
    cases r <;> first | rfl | skip
    show some (Pc.row v' _ 6 (s.fr.length + 1) (flC frC s.fr ++ frC f)) = some (Pc.row v' _ 6 (s.fr ++ [f]).length (flC frC (s.fr ++ [f])))
    rw [List.length_append, flC_append, flC_one]
    rfl
  refine h.loc rfl ((u.mono (T := fun k => ftC (kC P K L.bb x l s) k) fun k _ hk => ⟨_, _, hr, hk⟩).setCell ⟨l.fb, 0, none⟩ v' fun _ => ⟨_, _, hr2, rfl⟩) (fun k hk => .inl hk) (s2.congr ee) fun k hk => ?_
  rcases ftC_set (ftC_congr ee hk) with h1 | h1
  · rcases ftC_set h1 with h1 | h1
    · exact .inl h1
    · have hk' : v'.ownBlock = some k := h1
      rcases hv with e | e
      · exact .inl ⟨_, _, hr, by rw [← hk', e]; rfl⟩
      · right
        rw [e] at hk'
        cases hk'
        exact Nat.le_refl _
  · exact .inl ⟨_, _, hr2, h1⟩
end
end Go.Proofs.Ytkooihniieepcaa
