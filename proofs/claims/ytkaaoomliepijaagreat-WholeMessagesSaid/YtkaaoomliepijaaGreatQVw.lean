/-
  Append of a slice that reads as a list (nil or not) to a slice of the call's own.
  A slice of the call's own that may begin in the midst of its block: what it reads as, append to it, and its parts.
-/
import Derived.Test.YtkaaoomliepijaaGreatQOwn
import Derived.Maps.AppendAt
import Derived.RegionTactic
import Derived.OwnWalk
namespace Go.Proofs.YtkaaoomliepijaaGreat
open Go.RowKit
set_option linter.unusedVariables false
section
variable {P : Program} {α : Type}

theorem run_append_sl (w : World) (base : Nat) (t ty e : TypeId) (i : TypeInfo) (z : Value) (bytes : Nat) (ht : P.underlying t = some (.slice e)) (hi : P.info? e = some i) (hz : i.zero = some z)
    (hsize : i.size = 1) (hby : i.bytes = bytes) (hzs : z.cells.size = 1) (v : Value) (n : Nat) (xs : List Value) (hown : w.ownsRow base e 1 v n xs)
    (f : α → Value) (hf : ∀ x, (f x).oneCell' = true) (A : Option Addr) (c : Nat) (ys : List α) (hr : Sl f w A ys)
    (h63 : n + ys.length ≤ maxLen) (hbytes : (n + ys.length) * bytes ≤ 140737488355328) (hbase : base ≤ w.heap.size) :
    ∃ v' w', (Builtin.append_ #[t, t] ty #[v, .slice A ys.length c]).run P w = .ok v' w' ∧ w'.ownsRow base e 1 v' (n + ys.length) (xs ++ ys.map f) ∧ w.grownBy w' v.ownBlock ∧
      (v'.ownBlock = v.ownBlock ∨ v'.ownBlock = some w.heap.size) := by
  cases A with
  | none =>
    have hy : ys = [] := by
      cases ys with
      | nil => rfl
      | cons y l => exact absurd (hr 0 y rfl).1 (by simp [okAd])
    subst hy
    refine ⟨v, w, ?_, by simpa using hown, World.grownBy.refl w _, .inl rfl⟩
    rcases hown.2 with ⟨rfl, rfl⟩ | ⟨g, cap, cur, rfl, _, _, hnc, _⟩
    · simp [Builtin.append_, run_underlying ht, sizeOf, typeInfo, hi, Builtin.lenOf, Builtin.firstCells]
    · simp [Builtin.append_, run_underlying ht, sizeOf, typeInfo, hi, Builtin.lenOf, Builtin.firstCells, hnc, storeCells]
  | some ad =>
    obtain ⟨v', w', hrun, h2, h3, _, h5⟩ := run_append_own_at (P := P) w base t ty e i z 1 bytes ht hi hz hsize hby hzs (by omega) v n xs hown ad ys.length c (ys.map f) (by simp) hr.news (one_map f hf ys) h63 hbytes hbase
    exact ⟨v', w', hrun, h2, h3, h5⟩

theorem wp_append_sl {o : Oper} {a : Act} {w : World} {K : Act → World → Prop} {Q : Exit → Act → World → Prop} (s x : Operand) (t : TypeId)
    (ho : o.op = .call { callee := .builtin .append, args := #[s, x], argTypes := #[t, t] })
    (base : Nat) (e : TypeId) (i : TypeInfo) (z : Value) (bytes : Nat) (ht : P.underlying t = some (.slice e)) (hi : P.info? e = some i) (hz : i.zero = some z)
    (hsize : i.size = 1) (hby : i.bytes = bytes) (hzs : z.cells.size = 1) (v : Value) (n : Nat) (xs : List Value) (hs : a.eval s = v) (hown : w.ownsRow base e 1 v n xs)
    (f : α → Value) (hf : ∀ x, (f x).oneCell' = true) (A : Option Addr) (c : Nat) (ys : List α) (hx : a.eval x = .slice A ys.length c) (hr : Sl f w A ys)
    (h63 : n + ys.length ≤ maxLen) (hbytes : (n + ys.length) * bytes ≤ 140737488355328) (hbase : base ≤ w.heap.size)
    (h : ∀ v' w', w'.ownsRow base e 1 v' (n + ys.length) (xs ++ ys.map f) → w.grownBy w' v.ownBlock → (v'.ownBlock = v.ownBlock ∨ v'.ownBlock = some w.heap.size) → K (a.put o.dst v') w') : o.wp P a w K Q := by
  obtain ⟨v', w', hrun, h2, h3, h4⟩ := run_append_sl (P := P) w base t o.type e i z bytes ht hi hz hsize hby hzs v n xs hown f hf A c ys hr h63 hbytes hbase
  unfold Oper.wp execOp
  simp only [ho, resolve, invoke, builtin, Sem.run_bind, Sem.run_pure, Result.andThen_ok, List.map_toArray, List.map_cons, List.map_nil, hs, hx, hrun]
  exact h v' w' h2 h3 h4

theorem wpList_append_sl {ops : Array Oper} {rest : List Oper} {o : Oper} {a : Act} {w : World} {Q : Exit → Act → World → Prop} (hgd : o.guard = none) (s x : Operand) (t : TypeId)
    (ho : o.op = .call { callee := .builtin .append, args := #[s, x], argTypes := #[t, t] })
    (base : Nat) (e : TypeId) (i : TypeInfo) (z : Value) (bytes : Nat) (ht : P.underlying t = some (.slice e)) (hi : P.info? e = some i) (hz : i.zero = some z)
    (hsize : i.size = 1) (hby : i.bytes = bytes) (hzs : z.cells.size = 1) (v : Value) (n : Nat) (xs : List Value) (hs : a.eval s = v) (hown : w.ownsRow base e 1 v n xs)
    (f : α → Value) (hf : ∀ x, (f x).oneCell' = true) (A : Option Addr) (c : Nat) (ys : List α) (hx : a.eval x = .slice A ys.length c) (hr : Sl f w A ys)
    (h63 : n + ys.length ≤ maxLen) (hbytes : (n + ys.length) * bytes ≤ 140737488355328) (hbase : base ≤ w.heap.size)
    (h : ∀ v' w', w'.ownsRow base e 1 v' (n + ys.length) (xs ++ ys.map f) → w.grownBy w' v.ownBlock → (v'.ownBlock = v.ownBlock ∨ v'.ownBlock = some w.heap.size) → wpList P ops Q rest (a.put o.dst v') w') : wpList P ops Q (o :: rest) a w :=
  wpList_plain hgd fun _ hK => wp_append_sl s x t ho base e i z bytes ht hi hz hsize hby hzs v n xs hs hown f hf A c ys hx hr h63 hbytes hbase fun v' w' h2 h3 h4 => hK _ _ (h v' w' h2 h3 h4)

theorem step_append_sl {ops : Array Oper} {o : Oper} {a : Act} {w : World} {K : Act → World → Prop} {Q : Exit → Act → World → Prop} {E : Prop} (hgd : o.guard = none) (s x : Operand) (t : TypeId)
    (ho : o.op = .call { callee := .builtin .append, args := #[s, x], argTypes := #[t, t] })
    (base : Nat) (e : TypeId) (i : TypeInfo) (z : Value) (bytes : Nat) (ht : P.underlying t = some (.slice e)) (hi : P.info? e = some i) (hz : i.zero = some z)
    (hsize : i.size = 1) (hby : i.bytes = bytes) (hzs : z.cells.size = 1) (v : Value) (n : Nat) (xs : List Value) (hs : a.eval s = v) (hown : w.ownsRow base e 1 v n xs)
    (f : α → Value) (hf : ∀ x, (f x).oneCell' = true) (A : Option Addr) (c : Nat) (ys : List α) (hx : a.eval x = .slice A ys.length c) (hr : Sl f w A ys)
    (h63 : n + ys.length ≤ maxLen) (hbytes : (n + ys.length) * bytes ≤ 140737488355328) (hbase : base ≤ w.heap.size)
    (h : ∀ v' w', w'.ownsRow base e 1 v' (n + ys.length) (xs ++ ys.map f) → w.grownBy w' v.ownBlock → (v'.ownBlock = v.ownBlock ∨ v'.ownBlock = some w.heap.size) → K (a.put o.dst v') w') :
    if Region.wanted o (yielded ops a.tmps) = true then Oper.wp P o a w K Q else E := by
  have hw : Region.wanted o (yielded ops a.tmps) = true := by simp [Region.wanted, hgd]
  rw [if_pos hw]
  exact wp_append_sl s x t ho base e i z bytes ht hi hz hsize hby hzs v n xs hs hown f hf A c ys hx hr h63 hbytes hbase h
end
end Go.Proofs.YtkaaoomliepijaaGreat
namespace Go.Proofs.YtkaaoomliepijaaGreat
open Go.RowKit
set_option linter.unusedVariables false

theorem Blk.setCells {T : TypeId} {b : Nat} : ∀ (vs : List Value) (o : Nat) (w : World) (xs : List Value), Blk w b T xs → o + vs.length ≤ xs.length → Blk (w.setCells b o vs) b T (xs.take o ++ vs ++ xs.drop (o + vs.length))
  | [], o, w, xs, h, _ => by simpa [World.setCells] using h
  | v :: r, o, w, xs, h, hl => by
    simp only [List.length_cons] at hl
    have h1 := Blk.setCells r (o + 1) (w.setCell ⟨b, o, none⟩ v) (xs.set o v) (h.set o v) (by simp; omega)
    simp only [World.setCells]
    have e : (xs.set o v).take (o + 1) ++ r ++ (xs.set o v).drop (o + 1 + r.length) = xs.take o ++ v :: r ++ xs.drop (o + (v :: r).length) := by
      rw [List.drop_set_of_lt (by omega), List.take_add_one, List.take_set_of_le (Nat.le_refl _), List.getElem?_set_self (by omega)]
      simp [Nat.add_assoc, Nat.add_comm 1]
    rw [← e]
    exact h1
theorem Upd.setCells {S : Nat → Prop} {b : Nat} : ∀ (vs : List Value) (o : Nat) (a w : World), Upd S a w → S b → Upd S a (w.setCells b o vs)
  | [], _, _, _, h, _ => h
  | v :: r, o, a, w, h, hb => Upd.setCells r (o + 1) a _ (h.setCell ⟨b, o, none⟩ v (fun _ => hb)) hb
theorem size_setCells' (b : Nat) : ∀ (vs : List Value) (o : Nat) (w : World), (w.setCells b o vs).heap.size = w.heap.size
  | [], _, _ => rfl
  | v :: r, o, w => by simp only [World.setCells]; rw [size_setCells' b r]; simp
theorem get_lt {α : Type} {l : List α} {c : Nat} {x : α} (h : l[c]? = some x) : c < l.length := by
  rcases Nat.lt_or_ge c l.length with h1 | h1
  · exact h1
  · simp [List.getElem?_eq_none h1] at h

/-- The value v is a slice of the call's own (of blocks from base on), one cell an element, that reads as xs; it may begin anywhere in its block. -/
def Vw {α : Type} (f : α → Value) (T : TypeId) (w : World) (base : Nat) (v : Value) (xs : List α) : Prop :=
  (v = .slice none 0 0 ∧ xs = []) ∨ ∃ g o c, v = .slice (some ⟨g, o, none⟩) xs.length c ∧ base ≤ g ∧ g < w.heap.size ∧ xs.length ≤ c ∧ c ≤ maxLen ∧
    (c = 0 ∨ ∃ pre sp, pre.length = o ∧ Blk w g T (pre ++ (xs.map f ++ sp)) ∧ c = xs.length + sp.length)
section
variable {α : Type} {f : α → Value} {T : TypeId} {w w' : World} {base : Nat} {v : Value} {xs : List α}
theorem Vw.nil (f : α → Value) (T : TypeId) (w : World) (base : Nat) : Vw f T w base (.slice none 0 0) [] := .inl ⟨rfl, rfl⟩
theorem Vw.shape (h : Vw f T w base v xs) : ∃ a c, v = .slice a xs.length c := by
  rcases h with ⟨rfl, rfl⟩ | ⟨g, o, c, rfl, _⟩
  · exact ⟨none, 0, rfl⟩
  · exact ⟨_, c, rfl⟩
theorem Vw.lt (h : Vw f T w base v xs) {g : Nat} (hg : v.ownBlock = some g) : base ≤ g ∧ g < w.heap.size := by
  rcases h with ⟨rfl, rfl⟩ | ⟨g', o, c, rfl, h1, h2, _⟩
  · simp [Value.ownBlock] at hg
  · simp [Value.ownBlock] at hg; subst hg; exact ⟨h1, h2⟩
theorem Vw.upd {S : Nat → Prop} (h : Vw f T w base v xs) (u : Upd S w w') (hs : ∀ g, v.ownBlock = some g → ¬ S g) : Vw f T w' base v xs := by
  rcases h with h | ⟨g, o, c, rfl, h1, h2, h3, h4, h5⟩
  · exact .inl h
  · refine .inr ⟨g, o, c, rfl, h1, Nat.lt_of_lt_of_le h2 u.size, h3, h4, ?_⟩
    rcases h5 with h5 | ⟨pre, sp, e1, hb, e2⟩
    · exact .inl h5
    · exact .inr ⟨pre, sp, e1, hb.upd u (hs g rfl), e2⟩
theorem Vw.below (h : Vw f T w base v xs) (b : Below w.heap.size w w') : Vw f T w' base v xs := h.upd (S := fun _ => False) (Upd.of_below b) (fun _ _ => id)
theorem Vw.rebase {base' : Nat} (h : Vw f T w base v xs) (hb : ∀ g, v.ownBlock = some g → base' ≤ g) : Vw f T w base' v xs := by
  rcases h with h | ⟨g, o, c, rfl, h1, h2⟩
  · exact .inl h
  · exact .inr ⟨g, o, c, rfl, hb g rfl, h2⟩
theorem Vw.sl {a : Option Addr} {n c : Nat} (h : Vw f T w base (.slice a n c) xs) : Sl f w a xs := by
  rcases h with ⟨h, rfl⟩ | ⟨g, o, c', h, h1, h2, h3, h4, h5⟩
  · intro j x hj; simp at hj
  · cases h
    rcases h5 with h5 | ⟨pre, sp, rfl, hb, e2⟩
    · have : xs = [] := List.eq_nil_of_length_eq_zero (by omega)
      subst this
      intro j x hj; simp at hj
    · intro j x hj
      refine ⟨rfl, ?_⟩
      rw [adr_mk]
      refine hb.cell ?_
      have hlt := get_lt hj
      rw [List.getElem?_append_right (by omega), Nat.add_sub_cancel_left, List.getElem?_append_left (by simpa using hlt), List.getElem?_map, hj]
      rfl
theorem Vw.of_own {n : Nat} (h : w.ownsRow base T 1 v n (xs.map f)) : Vw f T w base v xs := by
  have hlt := fun g hg => h.lt g hg
  obtain ⟨h1, h2⟩ := h
  have hn : xs.length = n := by simpa using h1
  subst hn
  rcases h2 with ⟨rfl, h2⟩ | ⟨g, cap, cur, rfl, hg, hh, h3, h4, h5, h6⟩
  · exact .inl ⟨rfl, List.eq_nil_of_length_eq_zero h2⟩
  · refine .inr ⟨g, 0, cap, rfl, hg, (hlt g rfl).2, h3, h4, .inr ⟨[], cur.toList.drop xs.length, rfl, ?_, by simp; omega⟩⟩
    unfold Blk
    rw [← h6, Nat.mul_one, List.nil_append, List.take_append_drop]
    exact hh
/-- A store into a place. -/
theorem Vw.set {a : Option Addr} {n c k : Nat} (h : Vw f T w base (.slice a n c) xs) (hk : k < xs.length) (x : α) : Vw f T (w.setCell (adr a k) (f x)) base (.slice a n c) (xs.set k x) := by
  rcases h with ⟨h, rfl⟩ | ⟨g, o, c', h, h1, h2, h3, h4, h5⟩
  · simp at hk
  · cases h
    rcases h5 with h5 | ⟨pre, sp, rfl, hb, e2⟩
    · omega
    · refine .inr ⟨g, pre.length, c, by rw [List.length_set], h1, by simpa using h2, by rw [List.length_set]; exact h3, h4, .inr ⟨pre, sp, rfl, ?_, by rw [List.length_set]; exact e2⟩⟩
      rw [adr_mk]
      have := hb.set (pre.length + k) (f x)
      rw [List.set_append_right _ _ (by omega), Nat.add_sub_cancel_left, List.set_append_left _ _ (by simpa using hk), ← List.map_set] at this
      exact this
/-- The cells are not frozen. -/
theorem Vw.free {a : Option Addr} {n c k : Nat} (h : Vw f T w base (.slice a n c) xs) (hk : k < xs.length) : w.frozen? (adr a k) = false := by
  rcases h with ⟨h, rfl⟩ | ⟨g, o, c', h, h1, h2, h3, h4, h5⟩
  · simp at hk
  · cases h
    rcases h5 with h5 | ⟨pre, sp, rfl, hb, e2⟩
    · omega
    · exact hb.free _
/-- The part from k on. -/
def cutV (a : Option Addr) (n c k : Nat) : Value := if k = c then .slice a 0 0 else .slice (some (adr a k)) (n - k) (c - k)
theorem cutV_block {a : Option Addr} {n c k : Nat} {g : Nat} (ha : a = none → c = 0 ∧ k = 0) (hg : (cutV a n c k).ownBlock = some g) : (Value.slice a n c).ownBlock = some g := by
  unfold cutV at hg
  cases a with
  | none => obtain ⟨rfl, rfl⟩ := ha rfl; simp [Value.ownBlock] at hg
  | some x => split at hg <;> simpa [Value.ownBlock, adr] using hg
theorem Vw.drop {a : Option Addr} {n c k : Nat} (h : Vw f T w base (.slice a n c) xs) (hk : k ≤ xs.length) : Vw f T w base (cutV a n c k) (xs.drop k) := by
  unfold cutV
  rcases h with ⟨h, rfl⟩ | ⟨g, o, c', h, h1, h2, h3, h4, h5⟩
  · cases h
    simp at hk
    subst hk
    simp [Vw.nil]
  · cases h
    split
    · rename_i e
      subst e
      have : xs.drop k = [] := List.drop_eq_nil_of_le (by omega)
      rw [this]
      exact .inr ⟨g, o, 0, rfl, h1, h2, Nat.le_refl _, Nat.zero_le _, .inl rfl⟩
    · rename_i e
      refine .inr ⟨g, o + k, c - k, by rw [List.length_drop]; rfl, h1, h2, by rw [List.length_drop]; omega, by omega, ?_⟩
      rcases h5 with h5 | ⟨pre, sp, rfl, hb, e2⟩
      · exact absurd (show k = c by omega) e
      · refine .inr ⟨pre ++ (xs.take k).map f, sp, by simp; omega, ?_, by rw [List.length_drop]; omega⟩
        rw [List.append_assoc, ← List.append_assoc (List.map f (xs.take k)), ← List.map_append, List.take_append_drop]
        exact hb
end

theorem Upd.of_grownV {w w' : World} {v : Value} (h : w.grownBy w' v.ownBlock) : Upd (fun k => v.ownBlock = some k) w w' :=
  ⟨h.os, h.tape, h.output, h.size, fun k hk hs => h.block k hk fun e => hs e.symm⟩

section
variable {P : Program} {α : Type}
theorem run_append_vw (w : World) (base : Nat) (t ty e : TypeId) (i : TypeInfo) (z : Value) (bytes : Nat) (ht : P.underlying t = some (.slice e)) (hi : P.info? e = some i) (hz : i.zero = some z)
    (hsize : i.size = 1) (hby : i.bytes = bytes) (hzs : z.cells.size = 1) (f : α → Value) (hf : ∀ x, (f x).oneCell' = true) (v : Value) (xs : List α) (hv : Vw f e w base v xs)
    (A : Option Addr) (c : Nat) (ys : List α) (hr : Sl f w A ys)
    (h63 : xs.length + ys.length ≤ maxLen) (hbytes : (xs.length + ys.length) * bytes ≤ 140737488355328) (hbase : base ≤ w.heap.size) :
    ∃ v' w', (Builtin.append_ #[t, t] ty #[v, .slice A ys.length c]).run P w = .ok v' w' ∧ Vw f e w' base v' (xs ++ ys) ∧ Upd (fun k => v.ownBlock = some k) w w' ∧
      (v'.ownBlock = v.ownBlock ∨ ∀ g, v'.ownBlock = some g → w.heap.size ≤ g) := by
  rcases hv with ⟨rfl, rfl⟩ | ⟨g, o, cv, rfl, h1, h2, h3, h4, h5⟩
  · obtain ⟨v', w', hrun, hown, hgr, hb⟩ := run_append_sl (P := P) w base t ty e i z bytes ht hi hz hsize hby hzs (.slice none 0 0) 0 [] ⟨by simp, .inl ⟨rfl, rfl⟩⟩ f hf A c ys hr (by simpa using h63) (by simpa using hbytes) hbase
    refine ⟨v', w', hrun, Vw.of_own (n := 0 + ys.length) (by simpa using hown), Upd.of_grownV hgr, ?_⟩
    rcases hb with hb | hb
    · exact .inl hb
    · right; intro g hg; rw [hb] at hg; cases hg; exact Nat.le_refl _
  · cases A with
    | none =>
      have hy : ys = [] := by
        cases ys with
        | nil => rfl
        | cons y l => exact absurd (hr 0 y rfl).1 (by simp [okAd])
      subst hy
      refine ⟨_, w, ?_, by rw [List.append_nil]; exact .inr ⟨g, o, cv, rfl, h1, h2, h3, h4, h5⟩, Upd.refl _ w, .inl rfl⟩
      simp [Builtin.append_, run_underlying ht, sizeOf, typeInfo, hi, Builtin.lenOf, Builtin.firstCells, h3, storeCells]
    | some ad =>
      have hnl : (ys.map f).length = ys.length := by simp
      by_cases hroom : xs.length + ys.length ≤ cv
      · have hblk : ys = [] ∨ ∃ pre sp, pre.length = o ∧ Blk w g e (pre ++ (xs.map f ++ sp)) ∧ cv = xs.length + sp.length := by
          rcases h5 with h5 | h5
          · exact .inl (List.eq_nil_of_length_eq_zero (by omega))
          · exact .inr h5
        rcases hblk with rfl | ⟨pre, sp, rfl, hb, e2⟩
        · have hrun := run_append_room_cells (P := P) w t ty e i ht hi g o xs.length cv ad 0 c [] (by simp) (by simp) (by simp) (by simpa using hroom) (by simp) (by simp)
          refine ⟨_, _, hrun, ?_, Upd.refl _ w, .inl rfl⟩
          rw [List.append_nil]
          exact .inr ⟨g, o, cv, rfl, h1, h2, h3, h4, h5⟩
        · have hsp : ys.length ≤ sp.length := by omega
          have hcell : ∀ j, j < (ys.map f).length → (w.cell? ⟨g, pre.length + xs.length * i.size + j, none⟩).isSome = true := by
            intro j hj
            rw [hsize, Nat.mul_one]
            have hjs : j < sp.length := by rw [hnl] at hj; omega
            rw [hb.cell (i := pre.length + xs.length + j) (v := sp[j]) (by
              rw [List.getElem?_append_right (by omega), List.getElem?_append_right (by simp; omega)]
              simp
              rw [show pre.length + xs.length + j - pre.length - xs.length = j by omega]
              simp)]
            rfl
          have hrun := run_append_room_cells (P := P) w t ty e i ht hi g pre.length xs.length cv ad ys.length c (ys.map f) (by simp [hsize]) hr.news (one_map f hf ys) hroom hcell (fun j _ => hb.free _)
          rw [hsize, Nat.mul_one] at hrun
          refine ⟨_, _, hrun, ?_, Upd.setCells _ _ _ _ (Upd.refl _ w) rfl, .inl rfl⟩
          refine .inr ⟨g, pre.length, cv, by rw [List.length_append], h1, by rw [size_setCells']; exact h2, by rw [List.length_append]; exact hroom, h4, .inr ⟨pre, sp.drop ys.length, rfl, ?_, by rw [List.length_append, List.length_drop]; omega⟩⟩
          have := Blk.setCells (ys.map f) (pre.length + xs.length) w _ hb (by simp; omega)
          have e : (pre ++ (xs.map f ++ sp)).take (pre.length + xs.length) = pre ++ xs.map f := by
            rw [← List.append_assoc, List.take_append_of_le_length (by simp), List.take_of_length_le (by simp)]
          have e' : (pre ++ (xs.map f ++ sp)).drop (pre.length + xs.length + (ys.map f).length) = sp.drop ys.length := by
            have h0 : (pre ++ xs.map f).length = pre.length + xs.length := by simp
            rw [← List.append_assoc, ← List.drop_drop, ← h0, List.drop_left, hnl]
          rw [e, e'] at this
          rw [List.map_append]
          simpa [List.append_assoc] using this
      · have holds : ∀ j u, (xs.map f)[j]? = some u → w.cell? ((⟨g, o, none⟩ : Addr).add j) = some u :=
          (Vw.sl (a := some ⟨g, o, none⟩) (n := xs.length) (c := cv) (.inr ⟨g, o, cv, rfl, h1, h2, h3, h4, h5⟩)).news
        obtain ⟨v', w', hrun, hown, hgr⟩ := run_append_arg_grows (P := P) w t ty e i z 1 bytes ht hi hz hsize hby hzs (by omega) ⟨g, o, none⟩ xs.length cv (xs.map f) (by simp) holds ad ys.length c (ys.map f) (by simp) hr.news (by omega) h63 hbytes
        refine ⟨v', w', hrun, ?_, ⟨hgr.os, hgr.tape, hgr.output, hgr.size, fun k hk _ => hgr.block k hk (by simp)⟩, .inr fun g hg => (hown.lt g hg).1⟩
        rw [← List.map_append] at hown
        exact (Vw.of_own hown).rebase fun g hg => Nat.le_trans hbase (hown.lt g hg).1

theorem wp_append_vw {o : Oper} {a : Act} {w : World} {K : Act → World → Prop} {Q : Exit → Act → World → Prop} (s x : Operand) (t : TypeId)
    (ho : o.op = .call { callee := .builtin .append, args := #[s, x], argTypes := #[t, t] })
    (base : Nat) (e : TypeId) (i : TypeInfo) (z : Value) (bytes : Nat) (ht : P.underlying t = some (.slice e)) (hi : P.info? e = some i) (hz : i.zero = some z)
    (hsize : i.size = 1) (hby : i.bytes = bytes) (hzs : z.cells.size = 1) (f : α → Value) (hf : ∀ x, (f x).oneCell' = true) (v : Value) (xs : List α) (hs : a.eval s = v) (hv : Vw f e w base v xs)
    (A : Option Addr) (c : Nat) (ys : List α) (hx : a.eval x = .slice A ys.length c) (hr : Sl f w A ys)
    (h63 : xs.length + ys.length ≤ maxLen) (hbytes : (xs.length + ys.length) * bytes ≤ 140737488355328) (hbase : base ≤ w.heap.size)
    (h : ∀ v' w', Vw f e w' base v' (xs ++ ys) → Upd (fun k => v.ownBlock = some k) w w' → (v'.ownBlock = v.ownBlock ∨ ∀ g, v'.ownBlock = some g → w.heap.size ≤ g) → K (a.put o.dst v') w') : o.wp P a w K Q := by
  obtain ⟨v', w', hrun, h2, h3, h4⟩ := run_append_vw (P := P) w base t o.type e i z bytes ht hi hz hsize hby hzs f hf v xs hv A c ys hr h63 hbytes hbase
  unfold Oper.wp execOp
  simp only [ho, resolve, invoke, builtin, Sem.run_bind, Sem.run_pure, Result.andThen_ok, List.map_toArray, List.map_cons, List.map_nil, hs, hx, hrun]
  exact h v' w' h2 h3 h4

theorem wpList_append_vw {ops : Array Oper} {rest : List Oper} {o : Oper} {a : Act} {w : World} {Q : Exit → Act → World → Prop} (hgd : o.guard = none) (s x : Operand) (t : TypeId)
    (ho : o.op = .call { callee := .builtin .append, args := #[s, x], argTypes := #[t, t] })
    (base : Nat) (e : TypeId) (i : TypeInfo) (z : Value) (bytes : Nat) (ht : P.underlying t = some (.slice e)) (hi : P.info? e = some i) (hz : i.zero = some z)
    (hsize : i.size = 1) (hby : i.bytes = bytes) (hzs : z.cells.size = 1) (f : α → Value) (hf : ∀ x, (f x).oneCell' = true) (v : Value) (xs : List α) (hs : a.eval s = v) (hv : Vw f e w base v xs)
    (A : Option Addr) (c : Nat) (ys : List α) (hx : a.eval x = .slice A ys.length c) (hr : Sl f w A ys)
    (h63 : xs.length + ys.length ≤ maxLen) (hbytes : (xs.length + ys.length) * bytes ≤ 140737488355328) (hbase : base ≤ w.heap.size)
    (h : ∀ v' w', Vw f e w' base v' (xs ++ ys) → Upd (fun k => v.ownBlock = some k) w w' → (v'.ownBlock = v.ownBlock ∨ ∀ g, v'.ownBlock = some g → w.heap.size ≤ g) → wpList P ops Q rest (a.put o.dst v') w') : wpList P ops Q (o :: rest) a w :=
  wpList_plain hgd fun _ hK => wp_append_vw s x t ho base e i z bytes ht hi hz hsize hby hzs f hf v xs hs hv A c ys hx hr h63 hbytes hbase fun v' w' h2 h3 h4 => hK _ _ (h v' w' h2 h3 h4)

theorem step_append_vw {ops : Array Oper} {o : Oper} {a : Act} {w : World} {K : Act → World → Prop} {Q : Exit → Act → World → Prop} {E : Prop} (hgd : o.guard = none) (s x : Operand) (t : TypeId)
    (ho : o.op = .call { callee := .builtin .append, args := #[s, x], argTypes := #[t, t] })
    (base : Nat) (e : TypeId) (i : TypeInfo) (z : Value) (bytes : Nat) (ht : P.underlying t = some (.slice e)) (hi : P.info? e = some i) (hz : i.zero = some z)
    (hsize : i.size = 1) (hby : i.bytes = bytes) (hzs : z.cells.size = 1) (f : α → Value) (hf : ∀ x, (f x).oneCell' = true) (v : Value) (xs : List α) (hs : a.eval s = v) (hv : Vw f e w base v xs)
    (A : Option Addr) (c : Nat) (ys : List α) (hx : a.eval x = .slice A ys.length c) (hr : Sl f w A ys)
    (h63 : xs.length + ys.length ≤ maxLen) (hbytes : (xs.length + ys.length) * bytes ≤ 140737488355328) (hbase : base ≤ w.heap.size)
    (h : ∀ v' w', Vw f e w' base v' (xs ++ ys) → Upd (fun k => v.ownBlock = some k) w w' → (v'.ownBlock = v.ownBlock ∨ ∀ g, v'.ownBlock = some g → w.heap.size ≤ g) → K (a.put o.dst v') w') :
    if Region.wanted o (yielded ops a.tmps) = true then Oper.wp P o a w K Q else E := by
  have hw : Region.wanted o (yielded ops a.tmps) = true := by simp [Region.wanted, hgd]
  rw [if_pos hw]
  exact wp_append_vw s x t ho base e i z bytes ht hi hz hsize hby hzs f hf v xs hs hv A c ys hx hr h63 hbytes hbase h
end
end Go.Proofs.YtkaaoomliepijaaGreat
