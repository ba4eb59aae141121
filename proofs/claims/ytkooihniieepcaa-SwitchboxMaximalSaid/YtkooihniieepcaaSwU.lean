/-
  play: the three tables of the client.
-/
import Derived.Test.YtkooihniieepcaaSwT
namespace Go.Proofs.Ytkooihniieepcaa
open Go.RowKit
set_option linter.unusedVariables false

/-- Roles renamed. -/
theorem St.ren {ρ : Type} {w : World} {base : Nat} {C C' : ρ → Option Pc} (h : St w base C) (f : ρ → ρ) (e : ∀ r p, C' r = some p → C (f r) = some p) (inj : ∀ r r' p p', C' r = some p → C' r' = some p' → f r = f r' → r = r') : St w base C' :=
  ⟨fun r p hp => h.at_ (f r) p (e r p hp), fun r r' p p' k h1 h2 h3 h4 => inj r r' p p' h1 h2 (h.sep (f r) (f r') p p' k (e r p h1) (e r' p' h2) h3 h4)⟩
inductive PR where
  | row (t : Nat) | inn (t i : Nat) | mk (t : Nat) | bx (t : Nat)
  deriving DecidableEq
/-- The tables (limits, left, came): their slices, rows, contents; what is being made. -/
structure Tbs where
  v : Nat → Value
  n : Nat → Nat
  b : Nat → Nat → Nat
  x : Nat → Nat → Nat → Int
  mw : Nat → Option Nat
  bx : Nat → Option (Nat × Nat)
def tbV (K : Nat) (T : Tbs) (t i : Nat) : Value := .slice (some ⟨T.b t i, 0, none⟩) K K
def tbX (T : Tbs) (t i c : Nat) : Value := .int .i64 (T.x t i c)
def plC (K : Nat) (T : Tbs) : PR → Option Pc
  | .row t => if t < 3 then some (.row (T.v t) 22 1 (T.n t) ((List.range (T.n t)).map (tbV K T t))) else none
  | .inn t i => if t < 3 ∧ i < T.n t then some (.blk (T.b t i) 3 ((List.range K).map (tbX T t i))) else none
  | .mk t => (T.mw t).map fun k => .blk k 3 ((List.range K).map fun _ => Value.int .i64 0)
  | .bx t => (T.bx t).map fun k => .blk k.1 22 [.slice (some ⟨k.2, 0, none⟩) K K]
def upd3 {α : Type} (f : Nat → Nat → Nat → α) (t i c : Nat) (y : α) : Nat → Nat → Nat → α := fun t' i' c' => if t' = t ∧ i' = i ∧ c' = c then y else f t' i' c'
def tbMake (T : Tbs) (t k : Nat) : Tbs := { T with mw := Bar.upd T.mw t (some k) }
def tbBox (T : Tbs) (t k m : Nat) : Tbs := { T with bx := Bar.upd T.bx t (some (k, m)) }
def tbPush (T : Tbs) (t m : Nat) (v : Value) : Tbs := { v := Bar.upd T.v t v, n := Bar.upd T.n t (T.n t + 1), b := upd2 T.b t (T.n t) m, x := fun t' i c => if t' = t ∧ i = T.n t then 0 else T.x t' i c, mw := Bar.upd T.mw t none, bx := Bar.upd T.bx t none }
def tbSet (T : Tbs) (t i c : Nat) (y : Int) : Tbs := { T with x := upd3 T.x t i c y }
section
variable {w w' : World} {base P K B : Nat} {L L' : Loc} {M M' : Md} {T : Tbs} {t : Nat}
theorem tb_make (h : CliAt w base P K L M B (plC K T)) (hm : T.mw t = none) (hB : B ≤ w.heap.size) :
    CliAt (w.alloc (.cells ((List.range K).map fun _ => Value.int .i64 0).toArray 3)) base P K L M B (plC K (tbMake T t w.heap.size)) := by
  refine (h.new (.mk t) (by show (T.mw t).map _ = none; rw [hm]; rfl) _ _ hB).congr fun r => ?_
  cases r with
  | mk s =>
    show _ = (Bar.upd T.mw t (some w.heap.size) s).map _
    by_cases e : s = t
    · subst e
      rw [setC_same, Bar.upd_same]
      rfl
    · rw [setC_ne _ _ (by intro x; cases x; exact e rfl), Bar.upd_ne _ _ e]
      rfl
  | _ => rw [setC_ne _ _ (by intro x; cases x)]; rfl
theorem tb_box {m : Nat} (h : CliAt w base P K L M B (plC K T)) (hm : T.bx t = none) (hB : B ≤ w.heap.size) :
    CliAt (w.alloc (.cells #[Value.slice (some ⟨m, 0, none⟩) K K] 22)) base P K L M B (plC K (tbBox T t w.heap.size m)) := by
  refine (h.new (.bx t) (by show (T.bx t).map _ = none; rw [hm]; rfl) _ [Value.slice (some ⟨m, 0, none⟩) K K] hB).congr fun r => ?_
  cases r with
  | bx s =>
    show _ = (Bar.upd T.bx t (some (w.heap.size, m)) s).map _
    by_cases e : s = t
    · subst e
      rw [setC_same, Bar.upd_same]
      rfl
    · rw [setC_ne _ _ (by intro x; cases x; exact e rfl), Bar.upd_ne _ _ e]
      rfl
  | _ => rw [setC_ne _ _ (by intro x; cases x)]; rfl
theorem tb_row (h : CliAt w base P K L M B (plC K T)) (ht : t < 3) : w.ownsRow B 22 1 (T.v t) (T.n t) ((List.range (T.n t)).map (tbV K T t)) := h.st.row (r := .row t) (if_pos ht)
theorem tb_push {m : Nat} {v : Value} (h : CliAt w base P K L M B (plC K T)) (ht : t < 3) (hm : T.mw t = some m)
    (ho : w'.ownsRow B 22 1 v (T.n t + 1) ((List.range (T.n t)).map (tbV K T t) ++ [Value.slice (some ⟨m, 0, none⟩) K K])) (gr : w.grownBy w' (T.v t).ownBlock) (hv : v.ownBlock = (T.v t).ownBlock ∨ v.ownBlock = some w.heap.size) :
    CliAt w' base P K L M B (plC K (tbPush T t m v)) := by
  have hr : plC K T (.row t) = some (.row (T.v t) 22 1 (T.n t) ((List.range (T.n t)).map (tbV K T t))) := if_pos ht
  have hf1 : ∀ k, (Pc.row v 22 1 (T.n t + 1) ((List.range (T.n t)).map (tbV K T t) ++ [Value.slice (some ⟨m, 0, none⟩) K K])).foot = some k → (∃ p, plC K T (.row t) = some p ∧ p.foot = some k) ∨ w.heap.size ≤ k := fun k hk => by
    have hk' : v.ownBlock = some k := hk
    rcases hv with e | e
    · exact .inl ⟨_, hr, by rw [← hk', e]; rfl⟩
    · right
      rw [e] at hk'
      cases hk'
      exact Nat.le_refl _
  have s1 := h.st.put (.row t) (.row v 22 1 (T.n t + 1) ((List.range (T.n t)).map (tbV K T t) ++ [Value.slice (some ⟨m, 0, none⟩) K K])) (Upd.of_grownV gr) (fun k hk _ => ⟨_, hr, hk⟩) ho hf1
  have e0 : ∀ r p, plC K (tbPush T t m v) r = some p → setC (plC K T) (.row t) (.row v 22 1 (T.n t + 1) ((List.range (T.n t)).map (tbV K T t) ++ [Value.slice (some ⟨m, 0, none⟩) K K])) (if r = .inn t (T.n t) then .mk t else r) = some p := by
    intro r p hp
    cases r with
    | row s =>
      rw [if_neg (by intro x; cases x)]
      by_cases e : s = t
      · subst e
        rw [setC_same, ← hp]
        show _ = (if s < 3 then some (Pc.row (Bar.upd T.v s v s) _ 1 (Bar.upd T.n s (T.n s + 1) s) ((List.range (Bar.upd T.n s (T.n s + 1) s)).map (tbV K (tbPush T s m v) s))) else none)
        rw [if_pos ht, Bar.upd_same, Bar.upd_same, List.range_succ, List.map_append]
        congr 2
        · congr 1
          · apply List.map_congr_left
            intro i hi
            have := List.mem_range.1 hi
            unfold tbV tbPush
            dsimp only
            rw [upd2_ne _ _ (by omega)]
          · unfold tbV tbPush
            simp only [List.map_cons, List.map_nil]
            rw [upd2_same]
      · rw [setC_ne _ _ (by intro x; cases x; exact e rfl), ← hp]
        show (if s < 3 then some (Pc.row (T.v s) _ 1 (T.n s) ((List.range (T.n s)).map (tbV K T s))) else none) = (if s < 3 then some (Pc.row (Bar.upd T.v t v s) _ 1 (Bar.upd T.n t (T.n t + 1) s) ((List.range (Bar.upd T.n t (T.n t + 1) s)).map (tbV K (tbPush T t m v) s))) else none)
        rw [Bar.upd_ne _ _ e, Bar.upd_ne _ _ e]
        have : tbV K (tbPush T t m v) s = tbV K T s := by
          funext i
          unfold tbV tbPush
          dsimp only
          rw [upd2_ne _ _ (fun x => e x.1)]
        rw [this]
    | inn s i =>
      by_cases e : s = t ∧ i = T.n t
      · obtain ⟨rfl, rfl⟩ := e
        rw [if_pos rfl, setC_ne _ _ (by intro x; cases x), ← hp]
        show (T.mw s).map _ = (if s < 3 ∧ T.n s < Bar.upd T.n s (T.n s + 1) s then some (Pc.blk (upd2 T.b s (T.n s) m s (T.n s)) _ ((List.range K).map (tbX (tbPush T s m v) s (T.n s)))) else none)
        rw [hm, Bar.upd_same, if_pos ⟨ht, by omega⟩, upd2_same]
        show some (Pc.blk m _ ((List.range K).map fun _ => Value.int .i64 0)) = _
        congr 2
        apply List.map_congr_left
        intro c _
        unfold tbX tbPush
        dsimp only
        rw [if_pos ⟨rfl, rfl⟩]
      · rw [if_neg (by intro x; cases x; exact e ⟨rfl, rfl⟩), setC_ne _ _ (by intro x; cases x), ← hp]
        show (if s < 3 ∧ i < T.n s then some (Pc.blk (T.b s i) _ ((List.range K).map (tbX T s i))) else none) = (if s < 3 ∧ i < Bar.upd T.n t (T.n t + 1) s then some (Pc.blk (upd2 T.b t (T.n t) m s i) _ ((List.range K).map (tbX (tbPush T t m v) s i))) else none)
        have e1 : tbX (tbPush T t m v) s i = tbX T s i := by
          funext c
          unfold tbX tbPush
          dsimp only
          rw [if_neg e]
        rw [upd2_ne _ _ e, e1]
        by_cases e2 : s = t
        · subst e2
          rw [Bar.upd_same]
          by_cases h3 : s < 3 ∧ i < T.n s
          · rw [if_pos h3, if_pos ⟨h3.1, by omega⟩]
          · rw [if_neg h3, if_neg (fun x => h3 ⟨x.1, by have := x.2; have : i ≠ T.n s := fun y => e ⟨rfl, y⟩; omega⟩)]
        · rw [Bar.upd_ne _ _ e2]
    | mk s =>
      rw [if_neg (by intro x; cases x), setC_ne _ _ (by intro x; cases x), ← hp]
      have hp' : (Bar.upd T.mw t none s).map _ = some p := hp
      show (T.mw s).map _ = (Bar.upd T.mw t none s).map _
      by_cases e : s = t
      · rw [e, Bar.upd_same] at hp'
        cases hp'
      · rw [Bar.upd_ne _ _ e]
    | bx s =>
      rw [if_neg (by intro x; cases x), setC_ne _ _ (by intro x; cases x), ← hp]
      have hp' : (Bar.upd T.bx t none s).map _ = some p := hp
      show (T.bx s).map _ = (Bar.upd T.bx t none s).map _
      by_cases e : s = t
      · rw [e, Bar.upd_same] at hp'
        cases hp'
      · rw [Bar.upd_ne _ _ e]
  have nomk : ∀ p, plC K (tbPush T t m v) (.mk t) = some p → False := fun p hp => by
    have hp' : (Bar.upd T.mw t none t).map _ = some p := hp
    rw [Bar.upd_same] at hp'
    cases hp'
  have s2 := s1.ren (fun r => if r = .inn t (T.n t) then .mk t else r) e0 (fun r r' p p' h1 h2 hf => by
    by_cases c1 : r = .inn t (T.n t)
    · by_cases c2 : r' = .inn t (T.n t)
      · rw [c1, c2]
      · exfalso
        rw [if_pos c1, if_neg c2] at hf
        rw [← hf] at h2
        exact nomk _ h2
    · by_cases c2 : r' = .inn t (T.n t)
      · exfalso
        rw [if_neg c1, if_pos c2] at hf
        rw [hf] at h1
        exact nomk _ h1
      · rw [if_neg c1, if_neg c2] at hf
        exact hf)
  refine h.cli (Upd.of_grownV gr) (fun k hk => .inl ⟨_, _, hr, hk⟩) s2 fun k hk => ?_
  obtain ⟨r, p, h1, h2⟩ := hk
  rcases ftC_set ⟨_, p, e0 r p h1, h2⟩ with h3 | h3
  · exact .inl h3
  · rcases hf1 k h3 with ⟨p, h4, h5⟩ | h4
    · exact .inl ⟨_, p, h4, h5⟩
    · exact .inr h4
/-- The way into a table. -/
theorem tb_way (h : CliAt w base P K L M B (plC K T)) (ht : t < 3) {i c : Nat} (hi : i < T.n t) (hc : c < K) : ∃ a m, T.v t = .slice (some ⟨a, 0, none⟩) (T.n t) m ∧ w.cell? ⟨a, i, none⟩ = some (tbV K T t i) ∧ w.cell? ⟨T.b t i, c, none⟩ = some (tbX T t i c) ∧ w.frozen? ⟨T.b t i, c, none⟩ = false := by
  have ho := tb_row h ht
  obtain ⟨a, m, e, _⟩ := own_shape ho
  have hk : List.range (T.n t) ≠ [] := by intro e; have := congrArg List.length e; simp at this; omega
  rw [e] at ho
  obtain ⟨g, sp, rfl, _, hb, _⟩ := own_blk ho hk
  have hr : plC K T (.inn t i) = some (.blk (T.b t i) 3 ((List.range K).map (tbX T t i))) := if_pos ⟨ht, hi⟩
  have hb2 := h.st.blk hr
  refine ⟨g, m, e, hb.cell ?_, hb2.cell (fun_get _ hc), hb2.free c⟩
  rw [List.getElem?_append_left (by simpa using hi)]
  exact fun_get _ hi
theorem tb_set (h : CliAt w base P K L M B (plC K T)) (ht : t < 3) {i c : Nat} (hi : i < T.n t) (hc : c < K) (y : Int) : CliAt (w.setCell ⟨T.b t i, c, none⟩ (.int .i64 y)) base P K L M B (plC K (tbSet T t i c y)) := by
  have hr : plC K T (.inn t i) = some (.blk (T.b t i) 3 ((List.range K).map (tbX T t i))) := if_pos ⟨ht, hi⟩
  refine (h.store (i := c) (v := .int .i64 y) hr (Bar.range_upd _ _ hc).symm).congr fun r => ?_
  cases r with
  | inn s j =>
    by_cases e : s = t ∧ j = i
    · obtain ⟨rfl, rfl⟩ := e
      rw [setC_same]
      show _ = (if s < 3 ∧ j < T.n s then some (Pc.blk (T.b s j) _ ((List.range K).map (tbX (tbSet T s j c y) s j))) else none)
      rw [if_pos ⟨ht, hi⟩]
      congr 2
      apply List.map_congr_left
      intro d _
      unfold tbX tbSet upd3 Bar.upd
      by_cases e : d = c <;> simp [e]
    · rw [setC_ne _ _ (by intro x; cases x; exact e ⟨rfl, rfl⟩)]
      show (if s < 3 ∧ j < T.n s then some (Pc.blk (T.b s j) _ ((List.range K).map (tbX T s j))) else none) = (if s < 3 ∧ j < T.n s then some (Pc.blk (T.b s j) _ ((List.range K).map (tbX (tbSet T t i c y) s j))) else none)
      have : tbX (tbSet T t i c y) s j = tbX T s j := by
        funext d
        unfold tbX tbSet upd3
        dsimp only
        rw [if_neg (fun x => e ⟨x.1, x.2.1⟩)]
      rw [this]
  | _ => rw [setC_ne _ _ (by intro x; cases x)]; rfl
end
end Go.Proofs.Ytkooihniieepcaa
