/-
  What leaves at an output does not depend on the other outputs: the plain law of BranchApart.
-/
import Derived.Test.YteomiofmaopkhaaRdyLib
namespace Go.Proofs.Yteomiofmaopkhaa
open Go.RowKit
set_option linter.unusedVariables false

theorem stepAll_take : ∀ (rs : List Bool) (k j : Nat) (fs : List Fr), k + rs.length ≤ 8 → (∀ x ∈ fs, 0 ≤ x.id) → rs[j]? = some true → wIds fs (k + j) ≠ [] → ∃ i, (stepAll rs k fs).1[j]? = some i ∧ 0 ≤ i
  | [], _, j, _, _, _, h, _ => by simp at h
  | r :: rs, k, 0, fs, hl, h0, h, hw => by
    simp at h
    subst h
    simp only [List.length_cons] at hl
    refine ⟨(stepK k true fs).1, rfl, ?_⟩
    rw [Nat.add_zero] at hw
    unfold stepK
    rw [if_pos rfl]
    cases e : takeK k fs with
    | none => exact absurd (takeK_no e) hw
    | some p =>
      have h1 := (takeK_yes (by omega) e).1
      have hm : p.1 ∈ wIds fs k := by rw [h1]; simp
      unfold wIds at hm
      obtain ⟨x, hx, e2⟩ := List.mem_map.1 hm
      show 0 ≤ p.1
      rw [← e2]
      exact h0 x (List.mem_filter.1 hx).1
  | r :: rs, k, j + 1, fs, hl, h0, h, hw => by
    simp only [List.length_cons] at hl
    have hj : j < rs.length := get_lt (by simpa using h : rs[j]? = some true)
    have h2 := (stepK_ord (show k < 8 by omega) r fs h0).2 (k + (j + 1)) (by omega) (by omega)
    obtain ⟨i, h3, h4⟩ := stepAll_take rs (k + 1) j (stepK k r fs).2 (by omega) (stepK_id0 h0) (by simpa using h) (by rw [show k + 1 + j = k + (j + 1) by omega, h2]; exact hw)
    exact ⟨i, by simpa [stepAll] using h3, h4⟩
/-- A step at output k is a function of whether it is ready and of what waits there. -/
theorem stepAll_at {rs : List Bool} {k : Nat} {fs : List Fr} {r : Bool} {i : Int} (hl : rs.length ≤ 8) (h0 : ∀ x ∈ fs, 0 ≤ x.id) (hr : rs[k]? = some r) (hi : (stepAll rs 0 fs).1[k]? = some i) :
    (if 0 ≤ i then [i] else []) = (if r = true then (wIds fs k).take 1 else []) ∧ wIds (stepAll rs 0 fs).2 k = if r = true then (wIds fs k).drop 1 else wIds fs k := by
  have h1 := (stepAll_ord rs 0 fs (by omega) h0).1 k i hi
  rw [Nat.zero_add] at h1
  cases r with
  | false =>
    have hn : ¬ 0 ≤ i := fun h => by have := stepAll_rdy rs 0 fs k i hi h; rw [hr] at this; simp at this
    rw [if_neg hn] at h1 ⊢
    simp at h1 ⊢
    exact h1.symm
  | true =>
    by_cases hw : wIds fs k = []
    · rw [hw] at h1
      have h2 := List.append_eq_nil_iff.1 h1.symm
      rw [h2.1, h2.2, hw]
      simp
    · obtain ⟨i', h2, h3⟩ := stepAll_take rs 0 k fs (by omega) h0 hr (by rw [Nat.zero_add]; exact hw)
      rw [hi] at h2
      obtain rfl := Option.some.inj h2
      rw [if_pos h3] at h1 ⊢
      rw [h1]
      simp
/-- An operation and the one that the law makes of it: the same puts, the same lengths, the same at output k. -/
structure ApR (k : Nat) (x y : OpR) : Prop where
  outs : y.outs = x.outs
  len : y.rdy.length = x.rdy.length
  same : y.rdy[k]? = x.rdy[k]?
structure PairInv (o k : Nat) (a b : RunSt) : Prop where
  put : a.put = b.put
  left : a.left[k]? = b.left[k]?
  wait : wIds a.fs k = wIds b.fs k
theorem PairInv.op {o k n : Nat} {a b : RunSt} (h : PairInv o k a b) (ha : RunInv o 64 n a) (hb : RunInv o 64 n b) (ho : o ≤ 8) (hk : k < o) (hn : n < 64) {x y : OpR} (hxy : ApR k x y) : PairInv o k (runOp o 64 a x) (runOp o 64 b y) := by
  have fa : (a.fs.length : Int) < 64 := by have := ha.cnt; have := ha.pk; have := ha.f0; omega
  have fb : (b.fs.length : Int) < 64 := by have := hb.cnt; have := hb.pk; have := hb.f0; omega
  unfold runOp
  rw [hxy.outs, hxy.len]
  by_cases h1 : 0 < x.outs.length
  · rw [if_pos h1, if_pos h1]
    unfold putSt
    cases e : putMask (o : Int) x.outs 0 with
    | none => exact h
    | some m =>
      dsimp only
      rw [if_pos fa, if_pos fb]
      refine ⟨by dsimp only; rw [h.put], h.left, ?_⟩
      dsimp only
      unfold wIds
      rw [List.filter_append, List.filter_append, List.map_append, List.map_append]
      have := h.wait
      unfold wIds at this
      rw [this, h.put]
  · rw [if_neg h1, if_neg h1]
    by_cases h2 : x.rdy.length = o
    · rw [if_pos h2, if_pos h2]
      obtain ⟨r, hr⟩ : ∃ r, x.rdy[k]? = some r := ⟨_, List.getElem?_eq_getElem (by omega)⟩
      have hr2 : y.rdy[k]? = some r := by rw [hxy.same]; exact hr
      have h3 : y.rdy.length = o := hxy.len.trans h2
      obtain ⟨i, hi⟩ : ∃ i, (stepAll x.rdy 0 a.fs).1[k]? = some i := ⟨_, List.getElem?_eq_getElem (by rw [(stepAll_len _ _ _).2]; omega)⟩
      obtain ⟨j, hj⟩ : ∃ i, (stepAll y.rdy 0 b.fs).1[k]? = some i := ⟨_, List.getElem?_eq_getElem (by rw [(stepAll_len _ _ _).2]; omega)⟩
      obtain ⟨p1, p2⟩ := stepAll_at (by omega) (fun x hx => (ha.ids x hx).1) hr hi
      obtain ⟨q1, q2⟩ := stepAll_at (by omega) (fun x hx => (hb.ids x hx).1) hr2 hj
      obtain ⟨l, hl⟩ : ∃ l, a.left[k]? = some l := ⟨_, List.getElem?_eq_getElem (by rw [ha.lo]; omega)⟩
      have hl2 : b.left[k]? = some l := by rw [← h.left]; exact hl
      refine ⟨h.put, ?_, ?_⟩
      · show (addLeft a.left _)[k]? = (addLeft b.left _)[k]?
        rw [addLeft_get _ _ _ _ _ hl hi, addLeft_get _ _ _ _ _ hl2 hj]
        have e : (if 0 ≤ i then [i] else []) = (if 0 ≤ j then [j] else []) := by rw [p1, q1, h.wait]
        have f : ∀ i : Int, (if 0 ≤ i then l ++ [i] else l) = l ++ (if 0 ≤ i then [i] else []) := fun i => by split <;> simp
        rw [f, f, e]
      · show wIds (keepF _) k = wIds (keepF _) k
        rw [wIds_keep, wIds_keep, p2, q2, h.wait]
    · rw [if_neg h2, if_neg h2]
      exact h
theorem runAll_apart {o k : Nat} (ho : o ≤ 8) (hk : k < o) (xs ys : List OpR) (hl : ys.length = xs.length) (hn : xs.length ≤ 60) (h : ∀ (j : Nat) (x y : OpR), xs[j]? = some x → ys[j]? = some y → ApR k x y) :
    ∀ n, n ≤ xs.length → PairInv o k (runAll o 64 (xs.take n)) (runAll o 64 (ys.take n)) ∧ RunInv o 64 n (runAll o 64 (xs.take n)) ∧ RunInv o 64 n (runAll o 64 (ys.take n))
  | 0, _ => ⟨⟨rfl, rfl, rfl⟩, RunInv.init o 64 (by omega), RunInv.init o 64 (by omega)⟩
  | n + 1, hn2 => by
    obtain ⟨h1, h2, h3⟩ := runAll_apart ho hk xs ys hl hn h n (by omega)
    obtain ⟨x, hx⟩ : ∃ x, xs[n]? = some x := ⟨_, List.getElem?_eq_getElem (by omega)⟩
    obtain ⟨y, hy⟩ : ∃ x, ys[n]? = some x := ⟨_, List.getElem?_eq_getElem (by omega)⟩
    rw [runAll_step hx, runAll_step hy]
    exact ⟨h1.op h2 h3 ho hk (by omega) (h n x y hx hy), h2.op ho x, h3.op ho y⟩
theorem runAll_apart_all {o k : Nat} (ho : o ≤ 8) (hk : k < o) (xs ys : List OpR) (hl : ys.length = xs.length) (hn : xs.length ≤ 60) (h : ∀ (j : Nat) (x y : OpR), xs[j]? = some x → ys[j]? = some y → ApR k x y) :
    PairInv o k (runAll o 64 xs) (runAll o 64 ys) := by
  have := (runAll_apart ho hk xs ys hl hn h xs.length (Nat.le_refl _)).1
  rw [List.take_length, ← hl, List.take_length] at this
  exact this

/-- The cells of an operation. -/
def co (x : OpR) : List Value := [.int .i64 x.id, x.v1, x.v2]
def cos (l : List OpR) : List Value := l.flatMap co
theorem cos_cons (y : OpR) (l : List OpR) : cos (y :: l) = .int .i64 y.id :: y.v1 :: y.v2 :: cos l := rfl
theorem cos_len (l : List OpR) : (cos l).length = l.length * 3 := by
  induction l with
  | nil => rfl
  | cons y l ih => rw [cos_cons]; simp only [List.length_cons, ih]; omega
theorem cos_get : ∀ {l : List OpR} {c : Nat} {x : OpR}, l[c]? = some x → (cos l)[c * 3]? = some (.int .i64 x.id) ∧ (cos l)[c * 3 + 1]? = some x.v1 ∧ (cos l)[c * 3 + 2]? = some x.v2
  | [], c, x, h => by simp at h
  | y :: l, 0, x, h => by simp at h; subst h; exact ⟨rfl, rfl, rfl⟩
  | y :: l, c + 1, x, h => by
    have := cos_get (l := l) (c := c) (x := x) (by simpa using h)
    rw [cos_cons, show (c + 1) * 3 = c * 3 + 3 by omega]
    exact this
theorem cos_set : ∀ {l : List OpR} {c : Nat}, c < l.length → ∀ x : OpR, (((cos l).set (c * 3) (.int .i64 x.id)).set (c * 3 + 1) x.v1).set (c * 3 + 2) x.v2 = cos (l.set c x)
  | [], c, h, _ => by simp at h
  | y :: l, 0, h, x => rfl
  | y :: l, c + 1, h, x => by
    have := cos_set (l := l) (c := c) (by simpa using h) x
    rw [cos_cons, show (c + 1) * 3 = c * 3 + 3 by omega]
    exact congrArg (fun t => Value.int .i64 y.id :: y.v1 :: y.v2 :: t) this
theorem cos_set2 : ∀ {l : List OpR} {c : Nat} {x : OpR}, l[c]? = some x → ∀ (ra : Option Addr) (rc : Nat) (rdy : List Bool), (cos l).set (c * 3 + 2) (.slice ra rdy.length rc) = cos (l.set c ⟨x.id, x.oa, x.oc, x.outs, ra, rc, rdy⟩)
  | [], c, _, h, _, _, _ => by simp at h
  | y :: l, 0, x, h, ra, rc, rdy => by simp at h; subst h; rfl
  | y :: l, c + 1, x, h, ra, rc, rdy => by
    have := cos_set2 (l := l) (c := c) (x := x) (by simpa using h) ra rc rdy
    rw [cos_cons, show (c + 1) * 3 + 2 = c * 3 + 2 + 3 by omega]
    exact congrArg (fun t => Value.int .i64 y.id :: y.v1 :: y.v2 :: t) this
def opZ : OpR := ⟨0, none, 0, [], none, 0, []⟩
theorem cos_zero (n : Nat) : cos (List.replicate n opZ) = (List.replicate n [Value.int .i64 0, .slice none 0 0, .slice none 0 0]).flatten := by
  induction n with
  | zero => rfl
  | succ n ih => rw [List.replicate_succ, List.replicate_succ, cos_cons, ih]; rfl
theorem blkO {w : World} {b : Nat} {T : TypeId} {l : List OpR} (h : Blk w b T (cos l)) {c : Nat} {x : OpR} (hx : l[c]? = some x) :
    w.cell? ⟨b, c * 3, none⟩ = some (.int .i64 x.id) ∧ w.cell? ⟨b, c * 3 + 1, none⟩ = some x.v1 ∧ w.cell? ⟨b, c * 3 + 2, none⟩ = some x.v2 := ⟨h.cell (cos_get hx).1, h.cell (cos_get hx).2.1, h.cell (cos_get hx).2.2⟩
theorem blkO_sl {w : World} {b : Nat} {T : TypeId} {l : List OpR} (h : Blk w b T (cos l)) : SlOp w (some ⟨b, 0, none⟩) l := by
  intro j x hj
  obtain ⟨h1, h2, h3⟩ := blkO h hj
  refine ⟨rfl, ?_, ?_, ?_⟩ <;> (rw [adr_mk, Nat.zero_add]; assumption)
end Go.Proofs.Yteomiofmaopkhaa
