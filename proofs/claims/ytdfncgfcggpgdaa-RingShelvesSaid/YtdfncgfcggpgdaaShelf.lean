/-
  A shelf of rings in memory, and the contracts of its methods.
-/
import Derived.Test.YtdfncgfcggpgdaaAwake
namespace Go.Proofs.Ytdfncgfcggpgdaa
open Go.RowKit
set_option linter.unusedVariables false

theorem Try.infoPR : (Try.prog.info? 46).map (fun i => (i.zero, i.size, i.bytes)) = some (some (.pointer none), 1, 8) := by kernel_rfl

structure RSt where
  b : Nat
  room : Nat
  v : Value
  xs : List Int
def RSt.ptr (r : RSt) : Value := .pointer (some ⟨r.b, 0, none⟩)
def RSt.foot (r : RSt) (k : Nat) : Prop := ringS r.b r.v k

structure ShAt (w : World) (base s : Nat) (rv : Value) (rs : List RSt) : Prop where
  hs : Blk w s 93 [rv]
  own : w.ownsRow base 46 1 rv rs.length (rs.map RSt.ptr)
  hbs : base ≤ s
  rings : ∀ (i : Nat) (r : RSt), rs[i]? = some r → RI w base r.b r.room r.v r.xs ∧ base ≤ r.b ∧ r.room ≤ 64 ∧ r.xs.length ≤ r.room
  disj : ∀ (i j : Nat) (r q : RSt), i ≠ j → rs[i]? = some r → rs[j]? = some q → ∀ k, r.foot k → ¬ q.foot k
  dsh : ∀ (i : Nat) (r : RSt), rs[i]? = some r → ¬ r.foot s ∧ ∀ k, r.foot k → rv.ownBlock ≠ some k
  ne : rv.ownBlock ≠ some s

theorem ShAt.foot_lt {w : World} {base s : Nat} {rv : Value} {rs : List RSt} (h : ShAt w base s rv rs) {i : Nat} {r : RSt} (hr : rs[i]? = some r) {k : Nat} (hk : r.foot k) : k < w.heap.size ∧ base ≤ k := by
  obtain ⟨h1, h2, _⟩ := h.rings i r hr
  rcases hk with h | h
  · subst h; exact ⟨h1.hb.lt, h2⟩
  · exact own_lt h1.own h

theorem ShAt.upd {w w' : World} {base s : Nat} {rv : Value} {rs : List RSt} {S : Nat → Prop} (h : ShAt w base s rv rs) (u : Upd S w w') (h1 : ¬ S s) (h2 : ∀ k, rv.ownBlock = some k → ¬ S k) (h3 : ∀ (i : Nat) (r : RSt), rs[i]? = some r → ∀ k, r.foot k → ¬ S k) :
    ShAt w' base s rv rs :=
  ⟨h.hs.upd u h1, own_upd h.own u h2, h.hbs, fun i r hr => ⟨(h.rings i r hr).1.upd u (h3 i r hr _ (.inl rfl)) (fun g hg => h3 i r hr g (.inr hg)), (h.rings i r hr).2⟩, h.disj, h.dsh, h.ne⟩
theorem ShAt.below {w w' : World} {base s : Nat} {rv : Value} {rs : List RSt} (h : ShAt w base s rv rs) (b : Below w.heap.size w w') : ShAt w' base s rv rs :=
  h.upd (S := fun _ => False) (Upd.of_below b) id (fun _ _ => id) (fun _ _ _ _ _ => id)
theorem ShAt.qt {w w' : World} {base s : Nat} {rv : Value} {rs : List RSt} (h : ShAt w base s rv rs) (q : Qt w w') : ShAt w' base s rv rs := h.below q.bel

/-- One ring has turned: the shelf holds it in its new state. -/
theorem ShAt.turn {w w' : World} {base s : Nat} {rv : Value} {rs : List RSt} (h : ShAt w base s rv rs) {c : Nat} {r : RSt} (hr : rs[c]? = some r) (u : Upd r.foot w w') {v' : Value} {xs' : List Int} (hR : RI w' base r.b r.room v' xs') (hx : xs'.length ≤ r.room)
    (hv : v'.ownBlock = r.v.ownBlock ∨ ∀ g, v'.ownBlock = some g → w.heap.size ≤ g) : ShAt w' base s rv (rs.set c ⟨r.b, r.room, v', xs'⟩) := by
  have hcl : c < rs.length := by
    rcases Nat.lt_or_ge c rs.length with h | h
    · exact h
    · simp [List.getElem?_eq_none h] at hr
  have hget : ∀ (i : Nat) (q : RSt), (rs.set c ⟨r.b, r.room, v', xs'⟩)[i]? = some q → (i = c ∧ q = ⟨r.b, r.room, v', xs'⟩) ∨ (i ≠ c ∧ rs[i]? = some q) := by
    intro i q hq
    rw [List.getElem?_set] at hq
    by_cases e : c = i
    · rw [if_pos e, if_pos hcl] at hq
      exact .inl ⟨e.symm, (Option.some.inj hq).symm⟩
    · rw [if_neg e] at hq
      exact .inr ⟨fun h => e h.symm, hq⟩
  have hfoot : ∀ k, (RSt.mk r.b r.room v' xs').foot k → r.foot k ∨ w.heap.size ≤ k := by
    intro k hk
    rcases hk with hk | hk
    · exact .inl (.inl hk)
    · rcases hv with hv | hv
      · exact .inl (.inr (by rw [← hv]; exact hk))
      · exact .inr (hv k hk)
  refine ⟨h.hs.upd u (h.dsh c r hr).1, ?_, h.hbs, ?_, ?_, ?_, h.ne⟩
  · have e : (rs.set c ⟨r.b, r.room, v', xs'⟩).map RSt.ptr = rs.map RSt.ptr := by
      rw [List.map_set]
      apply List.ext_getElem?
      intro i
      rw [List.getElem?_set]
      split
      · rename_i e
        subst e
        rw [if_pos (by simpa using hcl), List.getElem?_map, hr]
        rfl
      · rfl
    rw [e, List.length_set]
    exact own_upd h.own u (fun g hg hs => (h.dsh c r hr).2 g hs hg)
  · intro i q hq
    rcases hget i q hq with ⟨rfl, rfl⟩ | ⟨hi, hq⟩
    · obtain ⟨_, h2, h3, _⟩ := h.rings _ r hr
      exact ⟨hR, h2, h3, hx⟩
    · obtain ⟨h1, h2⟩ := h.rings i q hq
      exact ⟨h1.upd u (h.disj i c q r hi hq hr _ (.inl rfl)) (fun g hg => h.disj i c q r hi hq hr g (.inr hg)), h2⟩
  · intro i j p q hij hp hq k hk hk'
    rcases hget i p hp with ⟨e1, e2⟩ | ⟨hi, hp'⟩
    · rcases hget j q hq with ⟨e3, e4⟩ | ⟨hj, hq'⟩
      · omega
      · rw [e2] at hk
        rcases hfoot k hk with h1 | h1
        · exact h.disj c j r q (Ne.symm hj) hr hq' k h1 hk'
        · have := (h.foot_lt hq' hk').1; omega
    · rcases hget j q hq with ⟨e3, e4⟩ | ⟨hj, hq'⟩
      · rw [e4] at hk'
        rcases hfoot k hk' with h1 | h1
        · exact h.disj i c p r hi hp' hr k hk h1
        · have := (h.foot_lt hp' hk).1; omega
      · exact h.disj i j p q hij hp' hq' k hk hk'
  · intro i q hq
    rcases hget i q hq with ⟨rfl, rfl⟩ | ⟨hi, hq⟩
    · refine ⟨fun hk => ?_, fun k hk hg => ?_⟩
      · rcases hfoot _ hk with h1 | h1
        · exact (h.dsh _ r hr).1 h1
        · have := h.hs.lt; omega
      · rcases hfoot k hk with h1 | h1
        · exact (h.dsh _ r hr).2 k h1 hg
        · have := (own_lt h.own hg).1; omega
    · exact h.dsh i q hq

set_option maxHeartbeats 1000000 in
theorem shring_ok (w : World) (base s : Nat) (rv : Value) (rs : List RSt) (c : Nat) (r : RSt) (h : ShAt w base s rv rs) (hr : rs[c]? = some r) (hl : rs.length ≤ 1000) :
    Calls Try.prog 46 #[.pointer (some ⟨s, 0, none⟩), .int .i64 c] w fun e w' => e = .returned (.pointer (some ⟨r.b, 0, none⟩)) ∧ w = w' := by
  have hcl : c < rs.length := by
    rcases Nat.lt_or_ge c rs.length with h | h
    · exact h
    · simp [List.getElem?_eq_none h] at hr
  have hne : rs ≠ [] := by intro e; rw [e] at hcl; simp at hcl
  obtain ⟨a, cp, rfl, _⟩ := own_shape h.own
  obtain ⟨g, sp, rfl, _, hbk, _⟩ := own_blk h.own hne
  have q0 := h.hs.cell (i := 0) rfl
  have qc : w.cell? ⟨g, c, none⟩ = some (.pointer (some ⟨r.b, 0, none⟩)) := hbk.cell (i := c) (by
    rw [List.getElem?_append_left (by simpa using hcl), List.getElem?_map, hr]; rfl)
  have h0 : ¬ (c : Int) < 0 := by omega
  have h1 : ¬ (rs.length : Int) ≤ (c : Int) := by omega
  have h2 : (c : Int) < (rs.length : Int) := by omega
  clear h hr hbk hne
  go_enter Try.func46, Try.ntmps46
  go_wp2
  go_ret
  exact ⟨rfl, rfl⟩

set_option maxHeartbeats 1000000 in
theorem shring_out (w : World) (base s : Nat) (rv : Value) (rs : List RSt) (c : Int) (h : ShAt w base s rv rs) (hc : c < 0 ∨ rs.length ≤ c) (hl : rs.length ≤ 1000) :
    Calls Try.prog 46 #[.pointer (some ⟨s, 0, none⟩), .int .i64 c] w fun e w' => e = .returned (.pointer none) ∧ w = w' := by
  obtain ⟨a, cp, rfl, _⟩ := own_shape h.own
  have q0 := h.hs.cell (i := 0) rfl
  clear h
  by_cases h0 : c < 0
  · go_enter Try.func46, Try.ntmps46
    go_wp2
    go_ret
    exact ⟨rfl, rfl⟩
  · have h1 : (rs.length : Int) ≤ c := by omega
    clear hc
    go_enter Try.func46, Try.ntmps46
    go_wp2
    go_ret
    exact ⟨rfl, rfl⟩

set_option maxHeartbeats 1000000 in
theorem shring_nil (w : World) (c : Int) : Calls Try.prog 46 #[.pointer none, .int .i64 c] w fun e w' => e = .returned (.pointer none) ∧ w = w' := by
  go_enter Try.func46, Try.ntmps46
  go_wp2
  go_ret
  exact ⟨rfl, rfl⟩
end Go.Proofs.Ytdfncgfcggpgdaa
