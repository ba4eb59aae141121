/-
  switchbox.New: the memory of a box that is being made.
-/
import Derived.Test.YtkooihniieepcaaSwL
namespace Go.Proofs.Ytkooihniieepcaa
open Go.RowKit
set_option linter.unusedVariables false

/-- Which parts are there: the rows of queues, the givers and takers, how many stand in their rows. -/
structure Nw where
  q : Nat → Bool
  bg : Nat → Nat → Bool
  bt : Nat → Nat → Bool
  ng : Nat → Nat
  nt : Nat → Nat
def nwB (P K : Nat) (n : Nw) (L : Loc) (j : Nat) : Value :=
  if j = 0 then .int .i64 P else if j = 1 then .int .i64 K
  else if j < 10 then (if n.q (j - 2) = true then .slice (some ⟨L.qr (j - 2), 0, none⟩) K K else .slice none 0 0)
  else if j < 18 then L.gr (j - 10)
  else if j < 26 then L.tr (j - 18)
  else if j < 34 then .int .i64 0
  else if j = 34 then .pointer (some ⟨L.xb, 0, none⟩) else .int .i64 0
def nwC (P K : Nat) (n : Nw) (L : Loc) (M : Md) : Rl → Option Pc
  | .box => some (.blk L.bb 73 ((List.range 36).map (nwB P K n L)))
  | .bar => some (.blk L.xb 95 ((List.range 17).map (barF P M.g M.a)))
  | .qr p => if n.q p = true then some (.blk (L.qr p) 30 ((List.range K).map (L.q p))) else none
  | .gr p => some (.row (L.gr p) 74 1 (n.ng p) ((List.range (n.ng p)).map (ptrF (L.gv p))))
  | .tr p => some (.row (L.tr p) 77 1 (n.nt p) ((List.range (n.nt p)).map (ptrF (L.tk p))))
  | .gv p c => if n.bg p c = true then some (.blk (L.gv p c) 98 [.slice (some ⟨L.gc p c, 0, none⟩) 1 1]) else none
  | .gc p c => if n.bg p c = true then some (.blk (L.gc p c) 100 (cs3 [M.gv p c])) else none
  | .tk p c => if n.bt p c = true then some (.blk (L.tk p c) 103 [.slice (some ⟨L.tc p c, 0, none⟩) 1 1]) else none
  | .tc p c => if n.bt p c = true then some (.blk (L.tc p c) 110 (cs2 [M.tk p c])) else none
  | .qf p c => some (.row (L.q p c) 39 6 (M.q p c).length (flC frC (M.q p c)))
theorem St.sub {ρ : Type} {w : World} {base : Nat} {C C' : ρ → Option Pc} (h : St w base C) (e : ∀ r p, C' r = some p → C r = some p) : St w base C' :=
  ⟨fun r p hp => h.at_ r p (e r p hp), fun r r' p p' k h1 h2 h3 h4 => h.sep r r' p p' k (e r p h1) (e r' p' h2) h3 h4⟩
section
variable {w w' w2 : World} {base P K p c : Nat} {n : Nw} {L : Loc} {M : Md}
theorem nw_box (h : St w base (nwC P K n L M)) : Fun w L.bb 73 36 (nwB P K n L) := h.blk (r := .box) rfl
/-- A row of queues. -/
theorem nw_q (h : St w base (nwC P K n L M)) (hp : p < 8) (hn : n.q p = false) (hb : base ≤ w.heap.size) (hq : ∀ i j, L.q i j = .slice none 0 0) :
    St ((w.setCell ⟨L.bb, 2 + p, none⟩ (.slice (some ⟨w.heap.size, 0, none⟩) K K)).alloc (.cells ((List.range K).map fun _ => Value.slice none 0 0).toArray 30)) base
      (nwC P K { n with q := Bar.upd n.q p true } { L with qr := Bar.upd L.qr p w.heap.size } M) := by
  have hr : nwC P K n L M (.qr p) = none := if_neg (by rw [hn]; simp)
  have s1 := h.store (r := .box) (k := L.bb) (T := 73) (i := 2 + p) (v := .slice (some ⟨w.heap.size, 0, none⟩) K K) rfl (Bar.range_upd (nwB P K n L) _ (by omega)).symm
  have hz : (w.setCell ⟨L.bb, 2 + p, none⟩ (.slice (some ⟨w.heap.size, 0, none⟩) K K)).heap.size = w.heap.size := by simp
  have hN := Blk.new (w.setCell ⟨L.bb, 2 + p, none⟩ (.slice (some ⟨w.heap.size, 0, none⟩) K K)) 30 ((List.range K).map fun _ => Value.slice none 0 0)
  rw [hz] at hN
  have s2 := s1.add (.qr p) (.blk w.heap.size 30 ((List.range K).map fun _ => Value.slice none 0 0)) (by rw [setC_ne _ _ (by intro e; cases e)]; exact hr) (Upd.of_below (S := fun _ => False) ((Below.refl _ _).alloc (Nat.le_refl _) (.cells ((List.range K).map fun _ => Value.slice none 0 0).toArray 30))) (fun _ _ => id) ⟨hN, hb⟩ (fun k hk => by
    have : w.heap.size = k := Option.some.inj hk
    omega)
  refine s2.congr fun r => ?_
  cases r with
  | box =>
    rw [setC_ne _ _ (by intro e; cases e), setC_same]
    show some (Pc.blk L.bb _ _) = some (Pc.blk L.bb _ ((List.range 36).map (nwB P K _ _)))
    congr 2
    apply List.map_congr_left
    intro j _
    by_cases e : j = 2 + p
    · subst e
      rw [Bar.upd_same]
      unfold nwB
      dsimp only
      rw [if_neg (by omega), if_neg (by omega), if_pos (by omega), Nat.add_sub_cancel_left]
      rw [if_pos (show Bar.upd n.q p true p = true from Bar.upd_same _ _ _), Bar.upd_same]
    · rw [Bar.upd_ne _ _ e]
      unfold nwB
      dsimp only
      by_cases h0 : j < 2
      · rcases (show j = 0 ∨ j = 1 by omega) with rfl | rfl <;> rfl
      · simp only [Bar.upd_ne n.q true (show j - 2 ≠ p by omega), Bar.upd_ne L.qr w.heap.size (show j - 2 ≠ p by omega)]
  | qr i =>
    show _ = (if Bar.upd n.q p true i = true then some (Pc.blk (Bar.upd L.qr p w.heap.size i) _ ((List.range K).map (L.q i))) else none)
    by_cases e : i = p
    · subst e
      rw [setC_same, Bar.upd_same, if_pos rfl, Bar.upd_same]
      congr 2
      apply List.map_congr_left
      intro j _
      rw [hq]
    · rw [setC_ne _ _ (by intro x; cases x; exact e rfl), setC_ne _ _ (by intro e; cases e), Bar.upd_ne _ _ e, Bar.upd_ne _ _ e]
      rfl
  | _ => rw [setC_ne _ _ (by intro e; cases e), setC_ne _ _ (by intro e; cases e)]; rfl
theorem map_far {f g : Nat → Nat} {m c x : Nat} (h : m ≤ c) : (List.range m).map (ptrF f) = (List.range m).map (ptrF (Bar.upd f c x)) := by
  apply List.map_congr_left
  intro j hj
  have := List.mem_range.1 hj
  unfold ptrF
  rw [Bar.upd_ne f x (show j ≠ c by omega)]
theorem upd2_row (f : Nat → Nat → Nat) (p c x i : Nat) : upd2 f p c x i = if i = p then Bar.upd (f p) c x else f i := by
  funext j
  by_cases e : i = p
  · subst e
    rw [if_pos rfl]
    unfold upd2 Bar.upd
    by_cases h : j = c <;> simp [h]
  · rw [if_neg e, upd2_ne _ _ (fun h => e h.1)]
/-- A giver. -/
theorem nw_gv (h : St w base (nwC P K n L M)) (hn : n.bg p c = false) (hc : n.ng p ≤ c) {g cb : Nat} (hg : GAt w' w.heap.size g cb [M.gv p c]) (q : Below w.heap.size w w') (hb : base ≤ w.heap.size) :
    St w' base (nwC P K { n with bg := upd2 n.bg p c true } { L with gv := upd2 L.gv p c g, gc := upd2 L.gc p c cb } M) := by
  have hr : nwC P K n L M (.gv p c) = none := if_neg (by rw [hn]; simp)
  have hr2 : nwC P K n L M (.gc p c) = none := if_neg (by rw [hn]; simp)
  have s1 := h.add (.gv p c) (.blk g 98 [.slice (some ⟨cb, 0, none⟩) 1 1]) hr (Upd.of_below (S := fun _ => False) q) (fun _ _ => id) ⟨hg.hg, Nat.le_trans hb hg.b1⟩ (fun k hk => by
    have : g = k := Option.some.inj hk
    have := hg.b1
    omega)
  have s2 : St w' base (setC (setC (nwC P K n L M) (.gv p c) (.blk g 98 [.slice (some ⟨cb, 0, none⟩) 1 1])) (.gc p c) (.blk cb 100 (cs3 [M.gv p c]))) := by
    refine ⟨fun r x hx => ?_, fun r r' x x' k h1 h2 h3 h4 => ?_⟩
    · by_cases e : r = .gc p c
      · subst e
        rw [setC_same] at hx
        cases hx
        exact ⟨hg.hc, Nat.le_trans hb hg.b2⟩
      · rw [setC_ne _ _ e] at hx
        exact s1.at_ r x hx
    · have key : ∀ r x, r ≠ .gc p c → setC (nwC P K n L M) (.gv p c) (.blk g 98 [.slice (some ⟨cb, 0, none⟩) 1 1]) r = some x → x.foot = some k → k ≠ cb := by
        intro r x hr' hx hk e
        by_cases e2 : r = .gv p c
        · subst e2
          rw [setC_same] at hx
          cases hx
          have : g = k := Option.some.inj hk
          exact hg.ne (by omega)
        · rw [setC_ne _ _ e2] at hx
          have h5 := (h.lt ⟨r, x, hx, hk⟩).2
          have := hg.b2
          omega
      by_cases e : r = .gc p c
      · by_cases e' : r' = .gc p c
        · rw [e, e']
        · subst e
          rw [setC_same] at h1
          cases h1
          rw [setC_ne _ _ e'] at h2
          exact absurd (Option.some.inj h3).symm (key r' x' e' h2 h4)
      · rw [setC_ne _ _ e] at h1
        by_cases e' : r' = .gc p c
        · subst e'
          rw [setC_same] at h2
          cases h2
          exact absurd (Option.some.inj h4).symm (key r x e h1 h3)
        · rw [setC_ne _ _ e'] at h2
          exact s1.sep r r' x x' k h1 h2 h3 h4
  refine s2.congr fun r => ?_
  cases r with
  | gv i j =>
    rw [setC_ne _ _ (by intro e; cases e)]
    show _ = (if upd2 n.bg p c true i j = true then some (Pc.blk (upd2 L.gv p c g i j) _ [.slice (some ⟨upd2 L.gc p c cb i j, 0, none⟩) 1 1]) else none)
    by_cases e : i = p ∧ j = c
    · obtain ⟨rfl, rfl⟩ := e
      rw [setC_same, upd2_same, if_pos rfl, upd2_same, upd2_same]
    · rw [setC_ne _ _ (by intro x; cases x; exact e ⟨rfl, rfl⟩), upd2_ne _ _ e, upd2_ne _ _ e, upd2_ne _ _ e]
      rfl
  | gc i j =>
    show _ = (if upd2 n.bg p c true i j = true then some (Pc.blk (upd2 L.gc p c cb i j) _ (cs3 [M.gv i j])) else none)
    by_cases e : i = p ∧ j = c
    · obtain ⟨rfl, rfl⟩ := e
      rw [setC_same, upd2_same, if_pos rfl, upd2_same]
    · rw [setC_ne _ _ (by intro x; cases x; exact e ⟨rfl, rfl⟩), setC_ne _ _ (by intro x; cases x), upd2_ne _ _ e, upd2_ne _ _ e]
      rfl
  | gr i =>
    rw [setC_ne _ _ (by intro e; cases e), setC_ne _ _ (by intro e; cases e)]
    show some (Pc.row (L.gr i) _ 1 (n.ng i) ((List.range (n.ng i)).map (ptrF (L.gv i)))) = some (Pc.row (L.gr i) _ 1 (n.ng i) ((List.range (n.ng i)).map (ptrF (upd2 L.gv p c g i))))
    rw [upd2_row]
    by_cases e : i = p
    · subst e
      rw [if_pos rfl, map_far (g := L.gv i) hc]
    · rw [if_neg e]
  | _ => rw [setC_ne _ _ (by intro e; cases e), setC_ne _ _ (by intro e; cases e)]; rfl
/-- A taker. -/
theorem nw_tk (h : St w base (nwC P K n L M)) (hn : n.bt p c = false) (hc : n.nt p ≤ c) {g cb : Nat} (hg : TAt w' w.heap.size g cb [M.tk p c]) (q : Below w.heap.size w w') (hb : base ≤ w.heap.size) :
    St w' base (nwC P K { n with bt := upd2 n.bt p c true } { L with tk := upd2 L.tk p c g, tc := upd2 L.tc p c cb } M) := by
  have hr : nwC P K n L M (.tk p c) = none := if_neg (by rw [hn]; simp)
  have s1 := h.add (.tk p c) (.blk g 103 [.slice (some ⟨cb, 0, none⟩) 1 1]) hr (Upd.of_below (S := fun _ => False) q) (fun _ _ => id) ⟨hg.hg, Nat.le_trans hb hg.b1⟩ (fun k hk => by
    have : g = k := Option.some.inj hk
    have := hg.b1
    omega)
  have s2 : St w' base (setC (setC (nwC P K n L M) (.tk p c) (.blk g 103 [.slice (some ⟨cb, 0, none⟩) 1 1])) (.tc p c) (.blk cb 110 (cs2 [M.tk p c]))) := by
    refine ⟨fun r x hx => ?_, fun r r' x x' k h1 h2 h3 h4 => ?_⟩
    · by_cases e : r = .tc p c
      · subst e
        rw [setC_same] at hx
        cases hx
        exact ⟨hg.hc, Nat.le_trans hb hg.b2⟩
      · rw [setC_ne _ _ e] at hx
        exact s1.at_ r x hx
    · have key : ∀ r x, r ≠ .tc p c → setC (nwC P K n L M) (.tk p c) (.blk g 103 [.slice (some ⟨cb, 0, none⟩) 1 1]) r = some x → x.foot = some k → k ≠ cb := by
        intro r x hr' hx hk e
        by_cases e2 : r = .tk p c
        · subst e2
          rw [setC_same] at hx
          cases hx
          have : g = k := Option.some.inj hk
          exact hg.ne (by omega)
        · rw [setC_ne _ _ e2] at hx
          have h5 := (h.lt ⟨r, x, hx, hk⟩).2
          have := hg.b2
          omega
      by_cases e : r = .tc p c
      · by_cases e' : r' = .tc p c
        · rw [e, e']
        · subst e
          rw [setC_same] at h1
          cases h1
          rw [setC_ne _ _ e'] at h2
          exact absurd (Option.some.inj h3).symm (key r' x' e' h2 h4)
      · rw [setC_ne _ _ e] at h1
        by_cases e' : r' = .tc p c
        · subst e'
          rw [setC_same] at h2
          cases h2
          exact absurd (Option.some.inj h4).symm (key r x e h1 h3)
        · rw [setC_ne _ _ e'] at h2
          exact s1.sep r r' x x' k h1 h2 h3 h4
  refine s2.congr fun r => ?_
  cases r with
  | tk i j =>
    rw [setC_ne _ _ (by intro e; cases e)]
    show _ = (if upd2 n.bt p c true i j = true then some (Pc.blk (upd2 L.tk p c g i j) _ [.slice (some ⟨upd2 L.tc p c cb i j, 0, none⟩) 1 1]) else none)
    by_cases e : i = p ∧ j = c
    · obtain ⟨rfl, rfl⟩ := e
      rw [setC_same, upd2_same, if_pos rfl, upd2_same, upd2_same]
    · rw [setC_ne _ _ (by intro x; cases x; exact e ⟨rfl, rfl⟩), upd2_ne _ _ e, upd2_ne _ _ e, upd2_ne _ _ e]
      rfl
  | tc i j =>
    show _ = (if upd2 n.bt p c true i j = true then some (Pc.blk (upd2 L.tc p c cb i j) _ (cs2 [M.tk i j])) else none)
    by_cases e : i = p ∧ j = c
    · obtain ⟨rfl, rfl⟩ := e
      rw [setC_same, upd2_same, if_pos rfl, upd2_same]
    · rw [setC_ne _ _ (by intro x; cases x; exact e ⟨rfl, rfl⟩), setC_ne _ _ (by intro x; cases x), upd2_ne _ _ e, upd2_ne _ _ e]
      rfl
  | tr i =>
    rw [setC_ne _ _ (by intro e; cases e), setC_ne _ _ (by intro e; cases e)]
    show some (Pc.row (L.tr i) _ 1 (n.nt i) ((List.range (n.nt i)).map (ptrF (L.tk i)))) = some (Pc.row (L.tr i) _ 1 (n.nt i) ((List.range (n.nt i)).map (ptrF (upd2 L.tk p c g i))))
    rw [upd2_row]
    by_cases e : i = p
    · subst e
      rw [if_pos rfl, map_far (g := L.tk i) hc]
    · rw [if_neg e]
  | _ => rw [setC_ne _ _ (by intro e; cases e), setC_ne _ _ (by intro e; cases e)]; rfl
/-- A giver's pointer is appended, the box's cell is stored. -/
theorem nw_gr (h : St w base (nwC P K n L M)) (hp : p < 8) {v' : Value} (ho : w2.ownsRow base 74 1 v' (n.ng p + 1) ((List.range (n.ng p)).map (ptrF (L.gv p)) ++ [ptrF (L.gv p) (n.ng p)])) (gr : w.grownBy w2 (L.gr p).ownBlock) (hv : v'.ownBlock = (L.gr p).ownBlock ∨ v'.ownBlock = some w.heap.size) :
    St (w2.setCell ⟨L.bb, 10 + p, none⟩ v') base (nwC P K { n with ng := Bar.upd n.ng p (n.ng p + 1) } { L with gr := Bar.upd L.gr p v' } M) := by
  have hr : nwC P K n L M (.gr p) = some (.row (L.gr p) 74 1 (n.ng p) ((List.range (n.ng p)).map (ptrF (L.gv p)))) := rfl
  have s1 := h.put (.gr p) (.row v' 74 1 (n.ng p + 1) ((List.range (n.ng p)).map (ptrF (L.gv p)) ++ [ptrF (L.gv p) (n.ng p)])) (Upd.of_grownV gr) (fun k hk _ => ⟨_, hr, hk⟩) ho (fun k hk => by
    have hk' : v'.ownBlock = some k := hk
    rcases hv with e | e
    · exact .inl ⟨_, hr, by rw [← hk', e]; rfl⟩
    · right
      rw [e] at hk'
      cases hk'
      exact Nat.le_refl _)
  have s2 := s1.store (r := .box) (k := L.bb) (T := 73) (i := 10 + p) (v := v') (by rw [setC_ne _ _ (by intro e; cases e)]; rfl) (Bar.range_upd (nwB P K n L) _ (by omega)).symm
  refine s2.congr fun r => ?_
  cases r with
  | box =>
    rw [setC_same]
    show some (Pc.blk L.bb _ _) = some (Pc.blk L.bb _ ((List.range 36).map (nwB P K _ _)))
    congr 2
    apply List.map_congr_left
    intro j _
    by_cases e : j = 10 + p
    · subst e
      rw [Bar.upd_same]
      unfold nwB
      dsimp only
      rw [if_neg (by omega), if_neg (by omega), if_neg (by omega), if_pos (by omega), Nat.add_sub_cancel_left, Bar.upd_same]
    · rw [Bar.upd_ne _ _ e]
      unfold nwB
      dsimp only
      by_cases h0 : 10 ≤ j
      · rw [Bar.upd_ne L.gr v' (show j - 10 ≠ p by omega)]
      · have h1 : j < 10 := by omega
        simp only [if_pos h1]
  | gr i =>
    rw [setC_ne _ _ (by intro e; cases e)]
    show _ = some (Pc.row (Bar.upd L.gr p v' i) _ 1 (Bar.upd n.ng p (n.ng p + 1) i) ((List.range (Bar.upd n.ng p (n.ng p + 1) i)).map (ptrF (L.gv i))))
    by_cases e : i = p
    · subst e
      rw [setC_same, Bar.upd_same, Bar.upd_same, List.range_succ, List.map_append]
      rfl
    · rw [setC_ne _ _ (by intro x; cases x; exact e rfl), Bar.upd_ne _ _ e, Bar.upd_ne _ _ e]
      rfl
  | _ => rw [setC_ne _ _ (by intro e; cases e), setC_ne _ _ (by intro e; cases e)]; rfl
/-- A taker's pointer. -/
theorem nw_tr (h : St w base (nwC P K n L M)) (hp : p < 8) {v' : Value} (ho : w2.ownsRow base 77 1 v' (n.nt p + 1) ((List.range (n.nt p)).map (ptrF (L.tk p)) ++ [ptrF (L.tk p) (n.nt p)])) (gr : w.grownBy w2 (L.tr p).ownBlock) (hv : v'.ownBlock = (L.tr p).ownBlock ∨ v'.ownBlock = some w.heap.size) :
    St (w2.setCell ⟨L.bb, 18 + p, none⟩ v') base (nwC P K { n with nt := Bar.upd n.nt p (n.nt p + 1) } { L with tr := Bar.upd L.tr p v' } M) := by
  have hr : nwC P K n L M (.tr p) = some (.row (L.tr p) 77 1 (n.nt p) ((List.range (n.nt p)).map (ptrF (L.tk p)))) := rfl
  have s1 := h.put (.tr p) (.row v' 77 1 (n.nt p + 1) ((List.range (n.nt p)).map (ptrF (L.tk p)) ++ [ptrF (L.tk p) (n.nt p)])) (Upd.of_grownV gr) (fun k hk _ => ⟨_, hr, hk⟩) ho (fun k hk => by
    have hk' : v'.ownBlock = some k := hk
    rcases hv with e | e
    · exact .inl ⟨_, hr, by rw [← hk', e]; rfl⟩
    · right
      rw [e] at hk'
      cases hk'
      exact Nat.le_refl _)
  have s2 := s1.store (r := .box) (k := L.bb) (T := 73) (i := 18 + p) (v := v') (by rw [setC_ne _ _ (by intro e; cases e)]; rfl) (Bar.range_upd (nwB P K n L) _ (by omega)).symm
  refine s2.congr fun r => ?_
  cases r with
  | box =>
    rw [setC_same]
    show some (Pc.blk L.bb _ _) = some (Pc.blk L.bb _ ((List.range 36).map (nwB P K _ _)))
    congr 2
    apply List.map_congr_left
    intro j _
    by_cases e : j = 18 + p
    · subst e
      rw [Bar.upd_same]
      unfold nwB
      dsimp only
      rw [if_neg (by omega), if_neg (by omega), if_neg (by omega), if_neg (by omega), if_pos (by omega), Nat.add_sub_cancel_left, Bar.upd_same]
    · rw [Bar.upd_ne _ _ e]
      unfold nwB
      dsimp only
      by_cases h0 : 18 ≤ j
      · rw [Bar.upd_ne L.tr v' (show j - 18 ≠ p by omega)]
      · have h1 : j < 18 := by omega
        simp only [if_pos h1]
  | tr i =>
    rw [setC_ne _ _ (by intro e; cases e)]
    show _ = some (Pc.row (Bar.upd L.tr p v' i) _ 1 (Bar.upd n.nt p (n.nt p + 1) i) ((List.range (Bar.upd n.nt p (n.nt p + 1) i)).map (ptrF (L.tk i))))
    by_cases e : i = p
    · subst e
      rw [setC_same, Bar.upd_same, Bar.upd_same, List.range_succ, List.map_append]
      rfl
    · rw [setC_ne _ _ (by intro x; cases x; exact e rfl), Bar.upd_ne _ _ e, Bar.upd_ne _ _ e]
      rfl
  | _ => rw [setC_ne _ _ (by intro e; cases e), setC_ne _ _ (by intro e; cases e)]; rfl
theorem nw_midG (h : St w base (nwC P K n L M)) (gr : w.grownBy w2 (L.gr p).ownBlock) : Fun w2 L.bb 73 36 (nwB P K n L) :=
  (nw_box h).upd (Upd.of_grownV gr) fun e => by
    have := h.sep .box (.gr p) _ _ L.bb rfl rfl rfl e
    cases this
theorem nw_midT (h : St w base (nwC P K n L M)) (gr : w.grownBy w2 (L.tr p).ownBlock) : Fun w2 L.bb 73 36 (nwB P K n L) :=
  (nw_box h).upd (Upd.of_grownV gr) fun e => by
    have := h.sep .box (.tr p) _ _ L.bb rfl rfl rfl e
    cases this
theorem nw_cells {bb : Nat} (hb : Fun w L.bb 73 36 (nwB P K n L)) (e : L.bb = bb) (hp : p < 8) : w.cell? ⟨bb, 10 + p, none⟩ = some (L.gr p) ∧ w.frozen? ⟨bb, 10 + p, none⟩ = false ∧ w.cell? ⟨bb, 18 + p, none⟩ = some (L.tr p) ∧ w.frozen? ⟨bb, 18 + p, none⟩ = false := by
  rw [e] at hb
  have h1 := hb.cell (j := 10 + p) (by omega)
  have h2 := hb.cell (j := 18 + p) (by omega)
  refine ⟨?_, hb.free _, ?_, hb.free _⟩
  · rw [h1]
    unfold nwB
    rw [if_neg (by omega), if_neg (by omega), if_neg (by omega), if_pos (by omega), Nat.add_sub_cancel_left]
  · rw [h2]
    unfold nwB
    rw [if_neg (by omega), if_neg (by omega), if_neg (by omega), if_neg (by omega), if_pos (by omega), Nat.add_sub_cancel_left]
end
end Go.Proofs.Ytkooihniieepcaa
