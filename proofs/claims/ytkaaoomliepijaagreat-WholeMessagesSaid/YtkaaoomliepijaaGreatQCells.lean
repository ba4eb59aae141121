/-
  Records of several cells: lists of them as cells; append of cells to a slice of the call's own.
-/
import Derived.Test.YtkaaoomliepijaaGreatQVw
namespace Go.Proofs.YtkaaoomliepijaaGreat
open Go.RowKit
set_option linter.unusedVariables false

section
variable {α : Type} (f : α → List Value) (s : Nat)
/-- The cells of a list of records. -/
def flC : List α → List Value
  | [] => []
  | x :: l => f x ++ flC l
theorem flC_append : ∀ (a b : List α), flC f (a ++ b) = flC f a ++ flC f b
  | [], b => rfl
  | p :: a, b => by
    show f p ++ flC f (a ++ b) = (f p ++ flC f a) ++ flC f b
    rw [flC_append a b, List.append_assoc]
theorem flC_one (x : α) : flC f [x] = f x := by show f x ++ [] = _; rw [List.append_nil]
variable {f s} (hf : ∀ x, (f x).length = s)
include hf
theorem flC_len : ∀ (l : List α), (flC f l).length = l.length * s
  | [] => by simp [flC]
  | p :: l => by
    show (f p ++ flC f l).length = _
    rw [List.length_append, flC_len l, List.length_cons, hf, Nat.succ_mul, Nat.add_comm]
theorem flC_get : ∀ {l : List α} {j : Nat} {p : α}, l[j]? = some p → ∀ k, k < s → (flC f l)[j * s + k]? = (f p)[k]?
  | [], j, p, h, _, _ => by simp at h
  | q :: l, 0, p, h, k, hk => by
    simp at h
    subst h
    show (f q ++ flC f l)[0 * s + k]? = _
    rw [List.getElem?_append_left (by rw [hf]; omega), Nat.zero_mul, Nat.zero_add]
  | q :: l, j + 1, p, h, k, hk => by
    have ih := flC_get (l := l) (j := j) (p := p) (by simpa using h) k hk
    show (f q ++ flC f l)[(j + 1) * s + k]? = _
    rw [List.getElem?_append_right (by rw [hf, Nat.succ_mul]; omega), ← ih]
    congr 1
    rw [hf, Nat.succ_mul]
    omega
theorem flC_drop : ∀ (l : List α) (j : Nat), (flC f l).drop (j * s) = flC f (l.drop j)
  | l, 0 => by simp
  | [], j + 1 => by simp [flC]
  | q :: l, j + 1 => by
    have ih := flC_drop l j
    show (f q ++ flC f l).drop ((j + 1) * s) = flC f (l.drop j)
    rw [← ih, Nat.succ_mul, Nat.add_comm, ← hf q, ← List.drop_drop, List.drop_left]
end
theorem flC_cells {α : Type} {f : α → List Value} (hf : ∀ x, ∀ u ∈ f x, u.oneCell' = true) : ∀ (l : List α), ∀ u ∈ flC f l, u.oneCell' = true
  | [], u, h => by cases h
  | p :: l, u, h => by
    rcases List.mem_append.1 (show u ∈ f p ++ flC f l from h) with h | h
    · exact hf p u h
    · exact flC_cells hf l u h
/-- A slice of the call's own of records of s cells. -/
theorem ownC_blk {α : Type} {f : α → List Value} {s : Nat} (hf : ∀ x, (f x).length = s) (hs : 0 < s) {w : World} {base : Nat} {T : TypeId} {a : Option Addr} {n m c : Nat} {ps : List α} (h : w.ownsRow base T s (.slice a m c) n (flC f ps)) (hx : ps ≠ []) :
    ∃ g sp, a = some ⟨g, 0, none⟩ ∧ base ≤ g ∧ Blk w g T (flC f ps ++ sp) ∧ n ≤ c ∧ c ≤ maxLen ∧ m = n ∧ n = ps.length := by
  obtain ⟨h1, h⟩ := h
  rw [flC_len hf] at h1
  have hn : n = ps.length := (Nat.eq_of_mul_eq_mul_right hs h1).symm
  rcases h with ⟨_, h0⟩ | ⟨g, cap, cur, hv, hg, hh, h3, h4, h5, h6⟩
  · exact absurd (List.eq_nil_of_length_eq_zero (by omega)) hx
  · cases hv
    refine ⟨g, cur.toList.drop (n * s), rfl, hg, ?_, h3, h4, rfl, hn⟩
    unfold Blk
    rw [← h6, List.take_append_drop]
    exact hh
theorem ownC_cell {α : Type} {f : α → List Value} {s : Nat} (hf : ∀ x, (f x).length = s) (hs : 0 < s) {w : World} {base : Nat} {T : TypeId} {a : Option Addr} {n m c : Nat} {ps : List α} (h : w.ownsRow base T s (.slice a m c) n (flC f ps)) {j : Nat} {p : α} (hp : ps[j]? = some p) {k : Nat} {v : Value} (hk : k < s) (hv : (f p)[k]? = some v) :
    okAd a = true ∧ w.cell? (adr a (j * s + k)) = some v := by
  obtain ⟨g, sp, rfl, hg, hb, _⟩ := ownC_blk hf hs h (by intro e; rw [e] at hp; simp at hp)
  refine ⟨rfl, ?_⟩
  rw [adr_mk, Nat.zero_add]
  refine hb.cell ?_
  have hl := get_lt hp
  rw [List.getElem?_append_left, flC_get hf hp k hk]
  · exact hv
  · rw [flC_len hf]
    have : (j + 1) * s ≤ ps.length * s := Nat.mul_le_mul_right _ hl
    rw [Nat.succ_mul] at this
    omega
/-- All of its cells. -/
theorem ownC_all {w : World} {base : Nat} {T : TypeId} {s : Nat} {a : Option Addr} {n m c : Nat} {xs : List Value} (h : w.ownsRow base T s (.slice a m c) n xs) : ∀ j u, xs[j]? = some u → okAd a = true ∧ w.cell? (adr a j) = some u := by
  intro j u hj
  obtain ⟨h1, h⟩ := h
  have hl := get_lt hj
  rcases h with ⟨_, h0⟩ | ⟨g, cap, cur, hv, hg, hh, h3, h4, h5, h6⟩
  · subst h0
    rw [Nat.zero_mul] at h1
    omega
  · cases hv
    refine ⟨rfl, ?_⟩
    rw [adr_mk, Nat.zero_add]
    have hb : Blk w g T (xs ++ cur.toList.drop (n * s)) := by
      unfold Blk
      rw [← h6, List.take_append_drop]
      exact hh
    exact hb.cell (by rw [List.getElem?_append_left hl]; exact hj)
theorem own_rebase {w : World} {B base : Nat} {e : TypeId} {size : Nat} {v : Value} {n : Nat} {xs : List Value} (h : w.ownsRow B e size v n xs) (hb : base ≤ B) : w.ownsRow base e size v n xs := by
  refine ⟨h.1, ?_⟩
  rcases h.2 with h | ⟨g, cap, cur, hv, hg, r⟩
  · exact .inl h
  · exact .inr ⟨g, cap, cur, hv, Nat.le_trans hb hg, r⟩
theorem own_at {w : World} {base B : Nat} {e : TypeId} {size : Nat} {v : Value} {n : Nat} {xs : List Value} (h : w.ownsRow base e size v n xs) (hb : ∀ k, v.ownBlock = some k → B ≤ k) : w.ownsRow B e size v n xs := by
  refine ⟨h.1, ?_⟩
  rcases h.2 with h | ⟨g, cap, cur, hv, hg, r⟩
  · exact .inl h
  · subst hv
    exact .inr ⟨g, cap, cur, rfl, hb g rfl, r⟩

section
variable {P : Program}
theorem run_append_cells (w : World) (base : Nat) (t ty e : TypeId) (i : TypeInfo) (z : Value) (size bytes : Nat) (ht : P.underlying t = some (.slice e)) (hi : P.info? e = some i) (hz : i.zero = some z)
    (hsize : i.size = size) (hby : i.bytes = bytes) (hzs : z.cells.size = size) (hsz : 0 < size) (v : Value) (n : Nat) (xs : List Value) (hown : w.ownsRow base e size v n xs)
    (A : Option Addr) (m c : Nat) (us : List Value) (hl : us.length = m * size) (hr : ∀ j u, us[j]? = some u → okAd A = true ∧ w.cell? (adr A j) = some u) (h1 : ∀ u ∈ us, u.oneCell' = true)
    (h63 : n + m ≤ maxLen) (hbytes : (n + m) * bytes ≤ 140737488355328) (hbase : base ≤ w.heap.size) :
    ∃ v' w', (Builtin.append_ #[t, t] ty #[v, .slice A m c]).run P w = .ok v' w' ∧ w'.ownsRow base e size v' (n + m) (xs ++ us) ∧ w.grownBy w' v.ownBlock ∧
      (v'.ownBlock = v.ownBlock ∨ v'.ownBlock = some w.heap.size) := by
  cases A with
  | none =>
    have hy : us = [] := by
      cases us with
      | nil => rfl
      | cons y l => exact absurd (hr 0 y rfl).1 (by simp [okAd])
    subst hy
    have hm : m = 0 := by
      rcases Nat.eq_zero_or_pos m with h | h
      · exact h
      · have := Nat.mul_pos h hsz; simp at hl; omega
    subst hm
    refine ⟨v, w, ?_, by simpa using hown, World.grownBy.refl w _, .inl rfl⟩
    rcases hown.2 with ⟨rfl, rfl⟩ | ⟨g, cap, cur, rfl, _, _, hnc, _⟩
    · simp [Builtin.append_, run_underlying ht, sizeOf, typeInfo, hi, Builtin.lenOf, Builtin.firstCells]
    · simp [Builtin.append_, run_underlying ht, sizeOf, typeInfo, hi, Builtin.lenOf, Builtin.firstCells, hnc, storeCells]
  | some ad =>
    obtain ⟨v', w', hrun, h2, h3, _, h5⟩ := run_append_own_at (P := P) w base t ty e i z size bytes ht hi hz hsize hby hzs hsz v n xs hown ad m c us hl (fun j u hj => by
      obtain ⟨k1, k2⟩ := hr j u hj
      rw [add_eq ad j (by simpa [okAd] using k1)]
      exact k2) h1 h63 hbytes hbase
    exact ⟨v', w', hrun, h2, h3, h5⟩
theorem wp_append_cells {o : Oper} {a : Act} {w : World} {K : Act → World → Prop} {Q : Exit → Act → World → Prop} (s x : Operand) (t : TypeId)
    (ho : o.op = .call { callee := .builtin .append, args := #[s, x], argTypes := #[t, t] })
    (base : Nat) (e : TypeId) (i : TypeInfo) (z : Value) (size bytes : Nat) (ht : P.underlying t = some (.slice e)) (hi : P.info? e = some i) (hz : i.zero = some z)
    (hsize : i.size = size) (hby : i.bytes = bytes) (hzs : z.cells.size = size) (hsz : 0 < size) (v : Value) (n : Nat) (xs : List Value) (hs : a.eval s = v) (hown : w.ownsRow base e size v n xs)
    (A : Option Addr) (m c : Nat) (us : List Value) (hx : a.eval x = .slice A m c) (hl : us.length = m * size) (hr : ∀ j u, us[j]? = some u → okAd A = true ∧ w.cell? (adr A j) = some u) (h1 : ∀ u ∈ us, u.oneCell' = true)
    (h63 : n + m ≤ maxLen) (hbytes : (n + m) * bytes ≤ 140737488355328) (hbase : base ≤ w.heap.size)
    (h : ∀ v' w', w'.ownsRow base e size v' (n + m) (xs ++ us) → w.grownBy w' v.ownBlock → (v'.ownBlock = v.ownBlock ∨ v'.ownBlock = some w.heap.size) → K (a.put o.dst v') w') : o.wp P a w K Q := by
  obtain ⟨v', w', hrun, h2, h3, h4⟩ := run_append_cells (P := P) w base t o.type e i z size bytes ht hi hz hsize hby hzs hsz v n xs hown A m c us hl hr h1 h63 hbytes hbase
  unfold Oper.wp execOp
  simp only [ho, resolve, invoke, builtin, Sem.run_bind, Sem.run_pure, Result.andThen_ok, List.map_toArray, List.map_cons, List.map_nil, hs, hx, hrun]
  exact h v' w' h2 h3 h4
theorem wpList_append_cells {ops : Array Oper} {rest : List Oper} {o : Oper} {a : Act} {w : World} {Q : Exit → Act → World → Prop} (hgd : o.guard = none) (s x : Operand) (t : TypeId)
    (ho : o.op = .call { callee := .builtin .append, args := #[s, x], argTypes := #[t, t] })
    (base : Nat) (e : TypeId) (i : TypeInfo) (z : Value) (size bytes : Nat) (ht : P.underlying t = some (.slice e)) (hi : P.info? e = some i) (hz : i.zero = some z)
    (hsize : i.size = size) (hby : i.bytes = bytes) (hzs : z.cells.size = size) (hsz : 0 < size) (v : Value) (n : Nat) (xs : List Value) (hs : a.eval s = v) (hown : w.ownsRow base e size v n xs)
    (A : Option Addr) (m c : Nat) (us : List Value) (hx : a.eval x = .slice A m c) (hl : us.length = m * size) (hr : ∀ j u, us[j]? = some u → okAd A = true ∧ w.cell? (adr A j) = some u) (h1 : ∀ u ∈ us, u.oneCell' = true)
    (h63 : n + m ≤ maxLen) (hbytes : (n + m) * bytes ≤ 140737488355328) (hbase : base ≤ w.heap.size)
    (h : ∀ v' w', w'.ownsRow base e size v' (n + m) (xs ++ us) → w.grownBy w' v.ownBlock → (v'.ownBlock = v.ownBlock ∨ v'.ownBlock = some w.heap.size) → wpList P ops Q rest (a.put o.dst v') w') : wpList P ops Q (o :: rest) a w :=
  wpList_plain hgd fun _ hK => wp_append_cells s x t ho base e i z size bytes ht hi hz hsize hby hzs hsz v n xs hs hown A m c us hx hl hr h1 h63 hbytes hbase fun v' w' h2 h3 h4 => hK _ _ (h v' w' h2 h3 h4)
theorem step_append_cells {ops : Array Oper} {o : Oper} {a : Act} {w : World} {K : Act → World → Prop} {Q : Exit → Act → World → Prop} {E : Prop} (hgd : o.guard = none) (s x : Operand) (t : TypeId)
    (ho : o.op = .call { callee := .builtin .append, args := #[s, x], argTypes := #[t, t] })
    (base : Nat) (e : TypeId) (i : TypeInfo) (z : Value) (size bytes : Nat) (ht : P.underlying t = some (.slice e)) (hi : P.info? e = some i) (hz : i.zero = some z)
    (hsize : i.size = size) (hby : i.bytes = bytes) (hzs : z.cells.size = size) (hsz : 0 < size) (v : Value) (n : Nat) (xs : List Value) (hs : a.eval s = v) (hown : w.ownsRow base e size v n xs)
    (A : Option Addr) (m c : Nat) (us : List Value) (hx : a.eval x = .slice A m c) (hl : us.length = m * size) (hr : ∀ j u, us[j]? = some u → okAd A = true ∧ w.cell? (adr A j) = some u) (h1 : ∀ u ∈ us, u.oneCell' = true)
    (h63 : n + m ≤ maxLen) (hbytes : (n + m) * bytes ≤ 140737488355328) (hbase : base ≤ w.heap.size)
    (h : ∀ v' w', w'.ownsRow base e size v' (n + m) (xs ++ us) → w.grownBy w' v.ownBlock → (v'.ownBlock = v.ownBlock ∨ v'.ownBlock = some w.heap.size) → K (a.put o.dst v') w') :
    if Region.wanted o (yielded ops a.tmps) = true then Oper.wp P o a w K Q else E := by
  have hw : Region.wanted o (yielded ops a.tmps) = true := by simp [Region.wanted, hgd]
  rw [if_pos hw]
  exact wp_append_cells s x t ho base e i z size bytes ht hi hz hsize hby hzs hsz v n xs hs hown A m c us hx hl hr h1 h63 hbytes hbase h
end
end Go.Proofs.YtkaaoomliepijaaGreat
