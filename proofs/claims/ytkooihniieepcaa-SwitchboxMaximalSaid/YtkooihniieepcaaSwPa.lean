/-
  switchbox.New: how far the box is made.
-/
import Derived.Test.YtkooihniieepcaaSwP
namespace Go.Proofs.Ytkooihniieepcaa
open Go.RowKit
set_option linter.unusedVariables false

/-- Ports below p are whole; port p has c givers and takers; qp rows of queues are there. -/
structure NwI (K p c qp : Nat) (n : Nw) (L : Loc) : Prop where
  q1 : ∀ i < qp, n.q i = true
  q0 : ∀ i, qp ≤ i → n.q i = false
  b1 : ∀ i < p, ∀ j < K, n.bg i j = true ∧ n.bt i j = true
  b2 : ∀ j < c, n.bg p j = true ∧ n.bt p j = true
  b3 : ∀ j, c ≤ j → n.bg p j = false ∧ n.bt p j = false
  b4 : ∀ i, p < i → ∀ j, n.bg i j = false ∧ n.bt i j = false
  g1 : ∀ i < p, n.ng i = K ∧ n.nt i = K
  g2 : n.ng p = c ∧ n.nt p = c
  g3 : ∀ i, p < i → n.ng i = 0 ∧ n.nt i = 0
  rz : ∀ i, (p < i ∨ (i = p ∧ c = 0)) → L.gr i = .slice none 0 0 ∧ L.tr i = .slice none 0 0
  qn : ∀ i j, L.q i j = .slice none 0 0
section
variable {K p c qp P : Nat} {n : Nw} {L : Loc} {M : Md}
theorem NwI.row (h : NwI K p c p n L) (x : Nat) : NwI K p c (p + 1) { n with q := Bar.upd n.q p true } { L with qr := Bar.upd L.qr p x } := by
  refine ⟨fun i hi => ?_, fun i hi => ?_, h.b1, h.b2, h.b3, h.b4, h.g1, h.g2, h.g3, h.rz, h.qn⟩
  · show Bar.upd n.q p true i = true
    by_cases e : i = p
    · rw [e, Bar.upd_same]
    · rw [Bar.upd_ne _ _ e]; exact h.q1 i (by omega)
  · show Bar.upd n.q p true i = false
    rw [Bar.upd_ne _ _ (by omega)]
    exact h.q0 i (by omega)
theorem NwI.next (h : NwI K p K qp n L) (hK : 1 ≤ K) : NwI K (p + 1) 0 qp n L := by
  refine ⟨h.q1, h.q0, fun i hi j hj => ?_, fun j hj => absurd hj (Nat.not_lt_zero _), fun j _ => h.b4 _ (Nat.lt_succ_self _) j, fun i hi j => h.b4 i (by omega) j, fun i hi => ?_, h.g3 _ (Nat.lt_succ_self _), fun i hi => h.g3 i (by omega), fun i hi => h.rz i (.inl (by omega)), h.qn⟩
  · by_cases e : i = p
    · rw [e]; exact h.b2 j hj
    · exact h.b1 i (by omega) j hj
  · by_cases e : i = p
    · rw [e]; exact h.g2
    · exact h.g1 i (by omega)
/-- One giver and one taker more. -/
theorem NwI.step (h : NwI K p c qp n L) (g cb t tb : Nat) (v u : Value) : NwI K p (c + 1) qp
    { q := n.q, bg := upd2 n.bg p c true, bt := upd2 n.bt p c true, ng := Bar.upd n.ng p (n.ng p + 1), nt := Bar.upd n.nt p (n.nt p + 1) }
    { L with gv := upd2 L.gv p c g, gc := upd2 L.gc p c cb, tk := upd2 L.tk p c t, tc := upd2 L.tc p c tb, gr := Bar.upd L.gr p v, tr := Bar.upd L.tr p u } := by
  refine ⟨h.q1, h.q0, fun i hi j hj => ?_, fun j hj => ?_, fun j hj => ?_, fun i hi j => ?_, fun i hi => ?_, ?_, fun i hi => ?_, fun i hi => ?_, h.qn⟩
  · show upd2 n.bg p c true i j = true ∧ upd2 n.bt p c true i j = true
    rw [upd2_ne _ _ (by omega), upd2_ne _ _ (by omega)]
    exact h.b1 i hi j hj
  · show upd2 n.bg p c true p j = true ∧ upd2 n.bt p c true p j = true
    by_cases e : j = c
    · rw [e, upd2_same, upd2_same]; exact ⟨rfl, rfl⟩
    · rw [upd2_ne _ _ (by omega), upd2_ne _ _ (by omega)]
      exact h.b2 j (by omega)
  · show upd2 n.bg p c true p j = false ∧ upd2 n.bt p c true p j = false
    rw [upd2_ne _ _ (by omega), upd2_ne _ _ (by omega)]
    exact h.b3 j (by omega)
  · show upd2 n.bg p c true i j = false ∧ upd2 n.bt p c true i j = false
    rw [upd2_ne _ _ (by omega), upd2_ne _ _ (by omega)]
    exact h.b4 i hi j
  · show Bar.upd n.ng p _ i = K ∧ Bar.upd n.nt p _ i = K
    rw [Bar.upd_ne _ _ (by omega), Bar.upd_ne _ _ (by omega)]
    exact h.g1 i hi
  · show Bar.upd n.ng p _ p = c + 1 ∧ Bar.upd n.nt p _ p = c + 1
    rw [Bar.upd_same, Bar.upd_same, h.g2.1, h.g2.2]
    exact ⟨rfl, rfl⟩
  · show Bar.upd n.ng p _ i = 0 ∧ Bar.upd n.nt p _ i = 0
    rw [Bar.upd_ne _ _ (by omega), Bar.upd_ne _ _ (by omega)]
    exact h.g3 i hi
  · show Bar.upd L.gr p v i = _ ∧ Bar.upd L.tr p u i = _
    rw [Bar.upd_ne _ _ (by omega), Bar.upd_ne _ _ (by omega)]
    exact h.rz i (.inl (by omega))
/-- What a new box holds. -/
def mdNew (zs : List Int) : Md := ⟨fun _ _ => [], fun _ c => newG (zs[c]?.getD 0), fun _ _ => ⟨0, 0⟩, fun _ => 0, fun _ => 0, fun _ => 0⟩
structure OkBox (P : Int) (zs : List Int) : Prop where
  p1 : 1 ≤ P
  p8 : P ≤ 8
  k1 : 1 ≤ zs.length
  k8 : zs.length ≤ 8
  z : ∀ z ∈ zs, 1 ≤ z ∧ z ≤ 64
theorem mdNew_ok {zs : List Int} (h : OkBox P zs) : MdOk P zs.length (mdNew zs) := by
  have hz : ∀ c, c < zs.length → 1 ≤ zs[c]?.getD 0 ∧ zs[c]?.getD 0 ≤ 64 := fun c hc => by
    have : zs[c]? = some zs[c] := by simp [hc]
    rw [this]
    exact h.z _ (List.getElem_mem hc)
  have p1 := h.p1; have p8 := h.p8; have k1 := h.k1
  refine ⟨by omega, by omega, h.k1, h.k8, fun p hp c hc => ?_, fun p hp c hc => ?_, fun p hp c hc => ⟨Int.le_refl _, Int.le_refl _, by show (0 : Int) ≤ _; omega⟩, fun p hp c hc => ?_, fun p hp c hc => Nat.zero_le _, fun p hp => ?_, fun p hp => ?_, fun p hp => ?_⟩
  · obtain ⟨h1, h2⟩ := hz c hc
    refine ⟨h1, h2, Int.le_refl _, Int.le_refl _, ?_, ?_⟩
    · show (0 : Int) ≤ zs[c]?.getD 0 + 0; omega
    · show (0 : Int) ≤ 100000; omega
  · show (0 : Int) ≤ 1000; omega
  · rfl
  · show 0 < zs.length; omega
  · show 0 < P; omega
  · show 0 < P; omega
theorem nw_done {w : World} {base : Nat} {zs : List Int} (hok : OkBox P zs) (h : St w base (nwC P zs.length n L (mdNew zs))) (hi : NwI zs.length P 0 P n L) : BoxAt w base P zs.length L (mdNew zs) := by
  refine ⟨h.sub fun r x hx => ?_, mdNew_ok hok⟩
  cases r with
  | box =>
    rw [← hx]
    show some (Pc.blk L.bb _ _) = some (Pc.blk L.bb _ _)
    congr 2
    apply List.map_congr_left
    intro j hj
    have hj := List.mem_range.1 hj
    unfold nwB boxF
    by_cases h0 : j < 2
    · rcases (show j = 0 ∨ j = 1 by omega) with rfl | rfl <;> rfl
    · rw [if_neg (by omega), if_neg (by omega), if_neg (show ¬ j = 0 by omega), if_neg (show ¬ j = 1 by omega)]
      by_cases h1 : j < 10
      · rw [if_pos h1, if_pos h1]
        by_cases h2 : j - 2 < P
        · rw [if_pos h2, if_pos (hi.q1 _ h2)]
        · rw [if_neg h2, if_neg (by rw [hi.q0 _ (by omega)]; simp)]
      · rw [if_neg h1, if_neg h1]
        by_cases h2 : j < 18
        · rw [if_pos h2, if_pos h2]
          by_cases h3 : j - 10 < P
          · rw [if_pos h3]
          · rw [if_neg h3, (hi.rz (j - 10) (by omega)).1]
        · rw [if_neg h2, if_neg h2]
          by_cases h3 : j < 26
          · rw [if_pos h3, if_pos h3]
            by_cases h4 : j - 18 < P
            · rw [if_pos h4]
            · rw [if_neg h4, (hi.rz (j - 18) (by omega)).2]
          · rw [if_neg h3, if_neg h3]
            by_cases h4 : j < 34
            · rw [if_pos h4, if_pos h4]; rfl
            · rw [if_neg h4, if_neg h4]
  | bar => exact hx
  | qr p =>
    simp only [conf] at hx
    split at hx
    · rename_i hp
      rw [← hx]
      exact if_pos (hi.q1 p hp)
    · cases hx
  | gr p =>
    simp only [conf] at hx
    split at hx
    · rename_i hp
      rw [← hx]
      show some (Pc.row _ _ 1 (n.ng p) ((List.range (n.ng p)).map _)) = _
      rw [(hi.g1 p hp).1]
    · cases hx
  | tr p =>
    simp only [conf] at hx
    split at hx
    · rename_i hp
      rw [← hx]
      show some (Pc.row _ _ 1 (n.nt p) ((List.range (n.nt p)).map _)) = _
      rw [(hi.g1 p hp).2]
    · cases hx
  | gv p c =>
    simp only [conf] at hx
    split at hx
    · rename_i hp
      rw [← hx]
      exact if_pos (hi.b1 p hp.1 c hp.2).1
    · cases hx
  | gc p c =>
    simp only [conf] at hx
    split at hx
    · rename_i hp
      rw [← hx]
      exact if_pos (hi.b1 p hp.1 c hp.2).1
    · cases hx
  | tk p c =>
    simp only [conf] at hx
    split at hx
    · rename_i hp
      rw [← hx]
      exact if_pos (hi.b1 p hp.1 c hp.2).2
    · cases hx
  | tc p c =>
    simp only [conf] at hx
    split at hx
    · rename_i hp
      rw [← hx]
      exact if_pos (hi.b1 p hp.1 c hp.2).2
    · cases hx
  | qf p c =>
    simp only [conf] at hx
    split at hx
    · exact hx
    · cases hx
/-- At the start. -/
def nw0 : Nw := ⟨fun _ => false, fun _ _ => false, fun _ _ => false, fun _ => 0, fun _ => 0⟩
def loc0 (bb xb : Nat) : Loc := ⟨bb, xb, fun _ => 0, fun _ => .slice none 0 0, fun _ => .slice none 0 0, fun _ _ => 0, fun _ _ => 0, fun _ _ => 0, fun _ _ => 0, fun _ _ => .slice none 0 0⟩
theorem NwI.start (bb xb : Nat) : NwI K 0 0 0 nw0 (loc0 bb xb) :=
  ⟨fun i hi => absurd hi (Nat.not_lt_zero _), fun _ _ => rfl, fun i hi => absurd hi (Nat.not_lt_zero _), fun i hi => absurd hi (Nat.not_lt_zero _), fun _ _ => ⟨rfl, rfl⟩, fun _ _ _ => ⟨rfl, rfl⟩, fun i hi => absurd hi (Nat.not_lt_zero _), ⟨rfl, rfl⟩, fun _ _ => ⟨rfl, rfl⟩, fun _ _ => ⟨rfl, rfl⟩, fun _ _ => rfl⟩
theorem nw_start {w w1 : World} {zs : List Int} (hb : Go.Proofs.Ytkooihniieepcaa.BarAt w1 w.heap.size P (fun _ => 0) (fun _ => 0)) (hz : w1.heap.size = w.heap.size + 1) :
    St (w1.alloc (.cells ((List.range 36).map (nwB P K nw0 (loc0 w1.heap.size w.heap.size))).toArray 73)) w.heap.size (nwC P K nw0 (loc0 w1.heap.size w.heap.size) (mdNew zs)) := by
  have f : ∀ r x k, nwC P K nw0 (loc0 w1.heap.size w.heap.size) (mdNew zs) r = some x → x.foot = some k → (r = .box ∧ k = w1.heap.size) ∨ (r = .bar ∧ k = w.heap.size) := by
    intro r x k h1 h2
    cases r with
    | box => cases h1; exact .inl ⟨rfl, (Option.some.inj h2).symm⟩
    | bar => cases h1; exact .inr ⟨rfl, (Option.some.inj h2).symm⟩
    | gr p => cases h1; cases h2
    | tr p => cases h1; cases h2
    | qf p c => cases h1; cases h2
    | qr p => simp [nwC, nw0] at h1
    | gv p c => simp [nwC, nw0] at h1
    | gc p c => simp [nwC, nw0] at h1
    | tk p c => simp [nwC, nw0] at h1
    | tc p c => simp [nwC, nw0] at h1
  refine ⟨fun r x hx => ?_, fun r r' x x' k h1 h2 h3 h4 => ?_⟩
  · cases r with
    | box => cases hx; exact ⟨Blk.new w1 _ _, by show w.heap.size ≤ w1.heap.size; omega⟩
    | bar => cases hx; exact ⟨(show Blk w1 w.heap.size _ _ from hb).alloc _, Nat.le_refl _⟩
    | gr p => cases hx; exact World.ownsRow_nil _ _ _ _
    | tr p => cases hx; exact World.ownsRow_nil _ _ _ _
    | qf p c => cases hx; exact World.ownsRow_nil _ _ _ _
    | qr p => simp [nwC, nw0] at hx
    | gv p c => simp [nwC, nw0] at hx
    | gc p c => simp [nwC, nw0] at hx
    | tk p c => simp [nwC, nw0] at hx
    | tc p c => simp [nwC, nw0] at hx
  · rcases f r x k h1 h3 with ⟨e1, e2⟩ | ⟨e1, e2⟩ <;> rcases f r' x' k h2 h4 with ⟨e3, e4⟩ | ⟨e3, e4⟩ <;> first | (rw [e1, e3]; done) | (exfalso; omega)
end
end Go.Proofs.Ytkooihniieepcaa
