/-
  switchbox: what look computes; two tables of rows of ints; a route.
-/
import Derived.Test.YtkooihniieepcaaSwD
namespace Go.Proofs.Ytkooihniieepcaa
open Go.RowKit
set_option linter.unusedVariables false

/-- The frame has no output at this input. -/
def noRt (P : Nat) (rt : Nat → Fr → Int) (p : Nat) (f : Fr) : Bool := !(decide (0 ≤ rt p f) && decide (rt p f < (P : Int)))
def drN (P : Nat) (rt : Nat → Fr → Int) (p : Nat) (l : List Fr) : Nat := (l.takeWhile (noRt P rt p)).length
def ouN (P : Nat) (rt : Nat → Fr → Int) (p : Nat) (l : List Fr) : Int := match l.dropWhile (noRt P rt p) with | [] => -1 | f :: _ => rt p f
section
variable {P : Nat} {rt : Nat → Fr → Int} {p : Nat}
theorem lk_all : ∀ {l : List Fr}, (∀ (j : Nat) f, l[j]? = some f → noRt P rt p f = true) → drN P rt p l = l.length ∧ ouN P rt p l = -1
  | [], _ => ⟨rfl, rfl⟩
  | f :: l, h => by
    have h0 := h 0 f rfl
    obtain ⟨h1, h2⟩ := lk_all (l := l) (fun j g hj => h (j + 1) g hj)
    unfold drN ouN at *
    rw [List.takeWhile_cons, List.dropWhile_cons, if_pos h0, if_pos h0]
    exact ⟨by rw [List.length_cons, List.length_cons, h1], h2⟩
theorem lk_at : ∀ {l : List Fr} {k : Nat} {f : Fr}, (∀ (j : Nat) g, j < k → l[j]? = some g → noRt P rt p g = true) → l[k]? = some f → noRt P rt p f = false → drN P rt p l = k ∧ ouN P rt p l = rt p f
  | [], k, f, _, h, _ => by simp at h
  | g :: l, 0, f, _, h, hn => by
    have : g = f := by simpa using h
    subst this
    unfold drN ouN
    rw [List.takeWhile_cons, List.dropWhile_cons, hn]
    exact ⟨rfl, rfl⟩
  | g :: l, k + 1, f, ha, h, hn => by
    have h0 := ha 0 g (Nat.succ_pos _) rfl
    obtain ⟨h1, h2⟩ := lk_at (l := l) (k := k) (f := f) (fun j g hj hg => ha (j + 1) g (by omega) hg) h hn
    unfold drN ouN at *
    rw [List.takeWhile_cons, List.dropWhile_cons, if_pos h0, if_pos h0]
    exact ⟨by rw [List.length_cons, h1], h2⟩
end
/-- A function value: what it returns at a port and a frame, and which blocks it reads. -/
structure Route (fid : Nat) (caps : Array Value) (rt : Nat → Fr → Int) (RI : World → Prop) (N : Nat → Prop) : Prop where
  call : ∀ (w : World) (p : Nat) (f : Fr), RI w → p < 8 → Calls Try.prog fid (#[.int .i64 p, frV f] ++ caps) w fun e w' => e = .returned (.int .i64 (rt p f)) ∧ Below w.heap.size w w'
  mono : ∀ w w' (S : Nat → Prop), RI w → Upd S w w' → (∀ k, N k → ¬ S k) → RI w'
  lt : ∀ w k, RI w → N k → k < w.heap.size
  enter : ∀ args w, (callFunc fid args).run Try.prog w = .ok (.enter fid args) w
theorem Route.below {fid : Nat} {caps : Array Value} {rt : Nat → Fr → Int} {RI : World → Prop} {N : Nat → Prop} (h : Route fid caps rt RI N) {w w' : World} (hr : RI w) (q : Below w.heap.size w w') : RI w' := h.mono w w' (fun _ => False) hr (Upd.of_below q) (fun _ _ => id)

inductive LR where
  | tb (t : Bool) | rw (t : Bool) (i : Nat)
  deriving DecidableEq
/-- Two tables of 8 rows of ints. -/
def lkC (b : Bool → Nat) (v : Bool → Nat → Value) (x : Bool → Nat → List Int) : LR → Option Pc
  | .tb t => some (.blk (b t) 84 ((List.range 8).map (v t)))
  | .rw t i => if i < 8 then some (.row (v t i) 3 1 (x t i).length ((x t i).map (Value.int .i64))) else none
def updT {α : Type} (f : Bool → Nat → α) (t : Bool) (p : Nat) (v : α) : Bool → Nat → α := fun t' i => if t' = t ∧ i = p then v else f t' i
theorem updT_same {α : Type} (f : Bool → Nat → α) (t : Bool) (p : Nat) (v : α) : updT f t p v t p = v := if_pos ⟨rfl, rfl⟩
theorem updT_ne {α : Type} (f : Bool → Nat → α) {t t' : Bool} {p i : Nat} (v : α) (h : ¬ (t' = t ∧ i = p)) : updT f t p v t' i = f t' i := if_neg h
theorem lk_start {base : Nat} (w : World) (b : Bool → Nat) (hb : b false ≠ b true) (h : ∀ t, Blk w (b t) 84 ((List.range 8).map fun _ => .slice none 0 0) ∧ base ≤ b t) : St w base (lkC b (fun _ _ => .slice none 0 0) (fun _ _ => [])) := by
  refine ⟨fun r p hp => ?_, fun r r' p p' k h1 h2 h3 h4 => ?_⟩
  · cases r with
    | tb t => cases hp; exact h t
    | rw t i =>
      simp only [lkC] at hp
      split at hp
      · cases hp; exact World.ownsRow_nil _ _ _ _
      · cases hp
  · cases r with
    | rw t i =>
      simp only [lkC] at h1
      split at h1
      · cases h1; cases h3
      · cases h1
    | tb t =>
      cases r' with
      | rw t i =>
        simp only [lkC] at h2
        split at h2
        · cases h2; cases h4
        · cases h2
      | tb t' =>
        cases h1; cases h2
        have e1 : b t = k := by simpa [Pc.foot] using h3
        have e2 : b t' = k := by simpa [Pc.foot] using h4
        cases t <;> cases t' <;> first | rfl | (exfalso; apply hb; omega)
section
variable {w w' w2 : World} {base : Nat} {b : Bool → Nat} {v : Bool → Nat → Value} {x : Bool → Nat → List Int}
theorem lk_blk (h : St w base (lkC b v x)) (t : Bool) : Fun w (b t) 84 8 (v t) := h.blk (r := .tb t) rfl
theorem lk_row (h : St w base (lkC b v x)) (t : Bool) {i : Nat} (hi : i < 8) : w.ownsRow base 3 1 (v t i) (x t i).length ((x t i).map (Value.int .i64)) := h.row (r := .rw t i) (if_pos hi)
theorem lk_same (h : St w base (lkC b v x)) (t : Bool) {i : Nat} (hi : i < 8) : St (w.setCell ⟨b t, i, none⟩ (v t i)) base (lkC b v x) := by
  have h1 : ((List.range 8).map (v t)).set i (v t i) = (List.range 8).map (v t) := by
    rw [← Bar.range_upd _ _ hi]
    congr 1
    funext j
    unfold Bar.upd
    by_cases e : j = i
    · rw [if_pos e, e]
    · rw [if_neg e]
  refine (h.store (r := .tb t) (k := b t) (T := 84) rfl h1).congr fun r => ?_
  by_cases e : r = .tb t
  · subst e; rw [setC_same]; rfl
  · rw [setC_ne _ _ e]
theorem lk_all8 (h : St w base (lkC b v x)) (t : Bool) : St ((((((((w.setCell ⟨b t, 0, none⟩ (v t 0)).setCell ⟨b t, 1, none⟩ (v t 1)).setCell ⟨b t, 2, none⟩ (v t 2)).setCell ⟨b t, 3, none⟩ (v t 3)).setCell ⟨b t, 4, none⟩ (v t 4)).setCell ⟨b t, 5, none⟩ (v t 5)).setCell ⟨b t, 6, none⟩ (v t 6)).setCell ⟨b t, 7, none⟩ (v t 7)) base (lkC b v x) := lk_same (lk_same (lk_same (lk_same (lk_same (lk_same (lk_same (lk_same (h) t (i := 0) (by omega)) t (i := 1) (by omega)) t (i := 2) (by omega)) t (i := 3) (by omega)) t (i := 4) (by omega)) t (i := 5) (by omega)) t (i := 6) (by omega)) t (i := 7) (by omega)
def slA : Value → Option Addr | .slice a _ _ => a | _ => none
def slN : Value → Nat | .slice _ n _ => n | _ => 0
def slC : Value → Nat | .slice _ _ c => c | _ => 0
theorem lk_slices (h : St w base (lkC b v x)) : St w base (lkC b (fun t i => .slice (slA (v t i)) (slN (v t i)) (slC (v t i))) x) := by
  have e : ∀ t i, i < 8 → v t i = .slice (slA (v t i)) (slN (v t i)) (slC (v t i)) := fun t i hi => by
    obtain ⟨a, c, e, _⟩ := own_shape (lk_row h t hi)
    rw [e]; rfl
  refine h.congr fun r => ?_
  cases r with
  | tb t =>
    show some (Pc.blk (b t) _ ((List.range 8).map (v t))) = some (Pc.blk (b t) _ ((List.range 8).map fun i => .slice (slA (v t i)) (slN (v t i)) (slC (v t i))))
    rw [List.map_congr_left fun i hi => e t i (List.mem_range.1 hi)]
  | rw t i =>
    by_cases hi : i < 8
    · show (if i < 8 then some (Pc.row (v t i) _ 1 (x t i).length ((x t i).map (Value.int .i64))) else none) = (if i < 8 then some (Pc.row (.slice (slA (v t i)) (slN (v t i)) (slC (v t i))) _ 1 (x t i).length ((x t i).map (Value.int .i64))) else none)
      rw [if_pos hi, if_pos hi, ← e t i hi]
    · show (if i < 8 then some (Pc.row (v t i) _ 1 (x t i).length ((x t i).map (Value.int .i64))) else none) = (if i < 8 then some (Pc.row (.slice (slA (v t i)) (slN (v t i)) (slC (v t i))) _ 1 (x t i).length ((x t i).map (Value.int .i64))) else none)
      rw [if_neg hi, if_neg hi]
theorem lk_tab (h : St w base (lkC b v x)) {t : Bool} {p : Nat} (hp : p < 8) (gr : w.grownBy w2 (v t p).ownBlock) (t' : Bool) : Fun w2 (b t') 84 8 (v t') :=
  (lk_blk h t').upd (Upd.of_grownV gr) fun e => by
    have := h.sep (.tb t') (.rw t p) _ _ (b t') rfl (if_pos hp) rfl e
    cases this
theorem lk_push (h : St w base (lkC b v x)) {t : Bool} {p : Nat} {n : Int} {v' : Value} (hp : p < 8) (ho : w2.ownsRow base 3 1 v' ((x t p).length + 1) ((x t p).map (Value.int .i64) ++ [Value.int .i64 n])) (gr : w.grownBy w2 (v t p).ownBlock)
    (hv : v'.ownBlock = (v t p).ownBlock ∨ v'.ownBlock = some w.heap.size) : St (w2.setCell ⟨b t, p, none⟩ v') base (lkC b (updT v t p v') (updT x t p (x t p ++ [n]))) := by
  have hr : lkC b v x (.rw t p) = some (.row (v t p) 3 1 (x t p).length ((x t p).map (Value.int .i64))) := if_pos hp
  have s1 := h.put (.rw t p) (.row v' 3 1 ((x t p).length + 1) ((x t p).map (Value.int .i64) ++ [Value.int .i64 n])) (Upd.of_grownV gr) (fun k hk _ => ⟨_, hr, hk⟩) ho (fun k hk => by
    have hk' : v'.ownBlock = some k := hk
    rcases hv with e | e
    · exact .inl ⟨_, hr, by rw [← hk', e]; rfl⟩
    · right
      rw [e] at hk'
      cases hk'
      exact Nat.le_refl _)
  have s2 := s1.store (r := .tb t) (k := b t) (T := 84) (l := (List.range 8).map (v t)) (i := p) (v := v') (l' := (List.range 8).map (Bar.upd (v t) p v')) (by rw [setC_ne _ _ (by intro e; cases e)]; rfl) (Bar.range_upd _ _ hp).symm
  refine s2.congr fun r => ?_
  cases r with
  | tb t' =>
    by_cases e : t' = t
    · subst e
      rw [setC_same]
      show _ = some (Pc.blk (b t') _ ((List.range 8).map (updT v t' p v' t')))
      have : updT v t' p v' t' = Bar.upd (v t') p v' := by
        funext i
        unfold updT Bar.upd
        by_cases h : i = p <;> simp [h]
      rw [this]
    · rw [setC_ne _ _ (by intro h; cases h; exact e rfl), setC_ne _ _ (by intro h; cases h)]
      show some (Pc.blk (b t') _ ((List.range 8).map (v t'))) = some (Pc.blk (b t') _ ((List.range 8).map (updT v t p v' t')))
      have : updT v t p v' t' = v t' := by
        funext i
        exact updT_ne v v' (fun h => e h.1)
      rw [this]
  | rw t' i =>
    rw [setC_ne _ _ (by intro h; cases h)]
    by_cases e : t' = t ∧ i = p
    · obtain ⟨rfl, rfl⟩ := e
      rw [setC_same]
      show _ = (if i < 8 then some (Pc.row (updT v t' i v' t' i) _ 1 (updT x t' i (x t' i ++ [n]) t' i).length ((updT x t' i (x t' i ++ [n]) t' i).map (Value.int .i64))) else none)
      rw [if_pos hp, updT_same, updT_same, List.length_append, List.map_append]
      rfl
    · rw [setC_ne _ _ (by intro h; cases h; exact e ⟨rfl, rfl⟩)]
      show (if i < 8 then some (Pc.row (v t' i) _ 1 (x t' i).length ((x t' i).map (Value.int .i64))) else none) = (if i < 8 then some (Pc.row (updT v t p v' t' i) _ 1 (updT x t p (x t p ++ [n]) t' i).length ((updT x t p (x t p ++ [n]) t' i).map (Value.int .i64))) else none)
      rw [updT_ne v v' e, updT_ne x _ e]
end
/-- Rows as they are when port p has c entries. -/
def xAt (K : Nat) (d : Bool → Nat → Nat → Int) (p c : Nat) : Bool → Nat → List Int := fun t i => if i < p then (List.range K).map (d t i) else if i = p then (List.range c).map (d t i) else []
end Go.Proofs.Ytkooihniieepcaa
