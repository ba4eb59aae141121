/-
  The reference's messages: memory; append of cells; Open.
-/
import Derived.Test.YtjljjohoipnhhaaMsgT
import Derived.Test.YtjljjohoipnhhaaOpenM
import Derived.Test.YtjljjohoipnhhaaGateF
namespace Go.Proofs.Ytjljjohoipnhhaa
open Go.RowKit
set_option linter.unusedVariables false

theorem Try.infoMsg : (Try.prog.info? 47).map (fun i => (i.zero, i.size, i.bytes)) = some (some (.agg #[.slice none 0 0, .int .i64 0, .int .i64 0, .int .i64 0]), 4, 48) := by kernel_rfl
abbrev RM := RwB × Msg
def rmC (p : RM) : List Value := [p.1.val, .int .i64 p.2.dl, .int .i64 p.2.st, .int .i64 p.2.out]
def flM : List RM → List Value
  | [] => []
  | p :: l => rmC p ++ flM l
theorem flM_len : ∀ (l : List RM), (flM l).length = l.length * 4
  | [] => rfl
  | p :: l => by
    show (rmC p ++ flM l).length = _
    rw [List.length_append, flM_len l, List.length_cons]
    show 4 + _ = _
    omega
theorem flM_append : ∀ (a b : List RM), flM (a ++ b) = flM a ++ flM b
  | [], b => rfl
  | p :: a, b => by
    show rmC p ++ flM (a ++ b) = (rmC p ++ flM a) ++ flM b
    rw [flM_append a b, List.append_assoc]
theorem flM_get : ∀ {l : List RM} {j : Nat} {p : RM}, l[j]? = some p → ∀ k, k < 4 → (flM l)[j * 4 + k]? = (rmC p)[k]?
  | [], j, p, h, _, _ => by simp at h
  | q :: l, 0, p, h, k, hk => by
    simp at h
    subst h
    show (rmC q ++ flM l)[0 * 4 + k]? = _
    rw [List.getElem?_append_left (by show _ < 4; omega), Nat.zero_mul, Nat.zero_add]
  | q :: l, j + 1, p, h, k, hk => by
    have ih := flM_get (l := l) (j := j) (p := p) (by simpa using h) k hk
    show (rmC q ++ flM l)[(j + 1) * 4 + k]? = _
    rw [List.getElem?_append_right (by show 4 ≤ _; omega), ← ih]
    congr 1
    show (j + 1) * 4 + k - 4 = _
    omega
theorem flM_set : ∀ {l : List RM} {j : Nat} {p p' : RM} {k : Nat} {v : Value}, l[j]? = some p → k < 4 → (rmC p).set k v = rmC p' → (flM l).set (j * 4 + k) v = flM (l.set j p')
  | [], j, p, p', k, v, h, _, _ => by simp at h
  | q :: l, 0, p, p', k, v, h, hk, he => by
    simp at h
    subst h
    show (rmC q ++ flM l).set (0 * 4 + k) v = rmC p' ++ flM l
    rw [Nat.zero_mul, Nat.zero_add, List.set_append_left _ _ (by show _ < 4; omega), he]
  | q :: l, j + 1, p, p', k, v, h, hk, he => by
    have ih := flM_set (l := l) (j := j) (p := p) (p' := p') (k := k) (v := v) (by simpa using h) hk he
    show (rmC q ++ flM l).set ((j + 1) * 4 + k) v = rmC q ++ flM (l.set j p')
    rw [List.set_append_right _ _ (by show 4 ≤ _; omega), ← ih]
    congr 2
    show (j + 1) * 4 + k - 4 = _
    omega
theorem flM_one : ∀ (l : List RM), ∀ u ∈ flM l, u.oneCell' = true
  | [], u, h => by cases h
  | p :: l, u, h => by
    rcases List.mem_append.1 (show u ∈ rmC p ++ flM l from h) with h | h
    · simp only [rmC, List.mem_cons, List.not_mem_nil, or_false] at h
      rcases h with rfl | rfl | rfl | rfl <;> rfl
    · exact flM_one l u h

/-- A slice whose cells read as messages. -/
def SlR (w : World) (a : Option Addr) (ps : List RM) : Prop :=
  ∀ (j : Nat) (p : RM), ps[j]? = some p → okAd a = true ∧ w.cell? (adr a (j * 4)) = some p.1.val ∧ w.cell? (adr a (j * 4 + 1)) = some (.int .i64 p.2.dl) ∧ w.cell? (adr a (j * 4 + 2)) = some (.int .i64 p.2.st) ∧ w.cell? (adr a (j * 4 + 3)) = some (.int .i64 p.2.out)
theorem SlR.cells {w : World} {a : Option Addr} {ps : List RM} (h : SlR w a ps) : ∀ j u, (flM ps)[j]? = some u → okAd a = true ∧ w.cell? (adr a j) = some u := by
  intro j u hj
  have hl := get_lt hj
  rw [flM_len] at hl
  obtain ⟨p, hp⟩ : ∃ p, ps[j / 4]? = some p := ⟨ps[j / 4]'(by omega), by simp⟩
  obtain ⟨i, k, hi, hk, rfl⟩ : ∃ i k, j / 4 = i ∧ k < 4 ∧ j = i * 4 + k := ⟨j / 4, j % 4, rfl, by omega, by omega⟩
  rw [hi] at hp
  clear hi
  rw [flM_get hp k hk] at hj
  obtain ⟨h0, h1, h2, h3, h4⟩ := h _ p hp
  refine ⟨h0, ?_⟩
  rcases (show k = 0 ∨ k = 1 ∨ k = 2 ∨ k = 3 by omega) with rfl | rfl | rfl | rfl
  · cases hj; exact h1
  · cases hj; exact h2
  · cases hj; exact h3
  · cases hj; exact h4
theorem own4_blk {w : World} {base : Nat} {a : Option Addr} {n m c : Nat} {ps : List RM} (h : w.ownsRow base 47 4 (.slice a m c) n (flM ps)) (hx : ps ≠ []) :
    ∃ g sp, a = some ⟨g, 0, none⟩ ∧ base ≤ g ∧ Blk w g 47 (flM ps ++ sp) ∧ n ≤ c ∧ c ≤ maxLen ∧ m = n ∧ n = ps.length := by
  obtain ⟨h1, h⟩ := h
  rw [flM_len] at h1
  have hn : n = ps.length := by omega
  rcases h with ⟨_, h0⟩ | ⟨g, cap, cur, hv, hg, hh, h3, h4, h5, h6⟩
  · exact absurd (List.eq_nil_of_length_eq_zero (by omega)) hx
  · cases hv
    refine ⟨g, cur.toList.drop (n * 4), rfl, hg, ?_, h3, h4, rfl, hn⟩
    unfold Blk
    rw [← h6, List.take_append_drop]
    exact hh
theorem SlR.of_own {w : World} {base : Nat} {a : Option Addr} {n m c : Nat} {ps : List RM} (h : w.ownsRow base 47 4 (.slice a m c) n (flM ps)) : SlR w a ps := by
  intro j p hp
  obtain ⟨g, sp, rfl, hg, hb, _⟩ := own4_blk h (by intro e; rw [e] at hp; simp at hp)
  have hl := get_lt hp
  have hf := flM_len ps
  have e : ∀ k, k < 4 → (flM ps ++ sp)[j * 4 + k]? = (rmC p)[k]? := fun k hk => by
    rw [List.getElem?_append_left (by omega)]
    exact flM_get hp k hk
  refine ⟨rfl, ?_, ?_, ?_, ?_⟩
  · rw [adr_mk, Nat.zero_add]; exact hb.cell (e 0 (by omega))
  · rw [adr_mk, Nat.zero_add]; exact hb.cell (e 1 (by omega))
  · rw [adr_mk, Nat.zero_add]; exact hb.cell (e 2 (by omega))
  · rw [adr_mk, Nat.zero_add]; exact hb.cell (e 3 (by omega))
/-- A store into a field. -/
theorem own4_set {w : World} {base g c j k n m : Nat} {ps : List RM} {p p' : RM} {v : Value} (h : w.ownsRow base 47 4 (.slice (some ⟨g, 0, none⟩) m c) n (flM ps)) (hp : ps[j]? = some p) (hk : k < 4) (he : (rmC p).set k v = rmC p') :
    (w.setCell ⟨g, j * 4 + k, none⟩ v).ownsRow base 47 4 (.slice (some ⟨g, 0, none⟩) m c) n (flM (ps.set j p')) := by
  have hps : ps ≠ [] := by intro e; rw [e] at hp; simp at hp
  obtain ⟨g', sp, e, _⟩ := own4_blk h hps
  cases e
  obtain ⟨h1, h⟩ := h
  have hl := get_lt hp
  have hf := flM_len ps
  rcases h with ⟨h0, _⟩ | ⟨g', cap, cur, hv, hg, hh, h3, h4, h5, h6⟩
  · cases h0
  · cases hv
    refine ⟨by rw [flM_len, List.length_set, ← flM_len]; exact h1, .inr ⟨g, c, (cur.toList.set (j * 4 + k) v).toArray, rfl, hg, ?_, h3, h4, by simp; omega, ?_⟩⟩
    · have hb : Blk w g 47 cur.toList := by unfold Blk; exact hh
      exact hb.set (j * 4 + k) v
    · show (cur.toList.set (j * 4 + k) v).take (n * 4) = _
      rw [List.take_set, h6]
      exact flM_set hp hk he
theorem own4_free {w : World} {base g c n m i : Nat} {ps : List RM} (h : w.ownsRow base 47 4 (.slice (some ⟨g, 0, none⟩) m c) n (flM ps)) (hx : ps ≠ []) : w.frozen? ⟨g, i, none⟩ = false := by
  obtain ⟨g', sp, e, _, hb, _⟩ := own4_blk h hx
  cases e
  exact hb.free i

section
variable {P : Program}
theorem run_append_cells (w : World) (base : Nat) (t ty e : TypeId) (i : TypeInfo) (z : Value) (size bytes : Nat) (ht : P.underlying t = some (.slice e)) (hi : P.info? e = some i) (hz : i.zero = some z)
    (hsize : i.size = size) (hby : i.bytes = bytes) (hzs : z.cells.size = size) (hsz : 0 < size) (v : Value) (n : Nat) (xs : List Value) (hown : w.ownsRow base e size v n xs)
    (A : Option Addr) (m c : Nat) (us : List Value) (hl : us.length = m * size) (hr : ∀ j u, us[j]? = some u → okAd A = true ∧ w.cell? (adr A j) = some u) (h1 : ∀ u ∈ us, u.oneCell' = true)
    (h63 : n + m ≤ maxLen) (hbytes : (n + m) * bytes ≤ 140737488355328) (hbase : base ≤ w.heap.size) :
    ∃ v' w', (Builtin.append_ #[t, t] ty #[v, .slice A m c]).run P w = .ok v' w' ∧ w'.ownsRow base e size v' (n + m) (xs ++ us) ∧ w.grownBy w' v.ownBlock ∧
      (v'.ownBlock = v.ownBlock ∨ v'.ownBlock = some w.heap.size) := by
  cases A with
  | none =>
    have hy : us = [] := by
      cases us with
      | nil => rfl
      | cons y l => exact absurd (hr 0 y rfl).1 (by simp [okAd])
    subst hy
    have hm : m = 0 := by
      rcases Nat.eq_zero_or_pos m with h | h
      · exact h
      · have := Nat.mul_pos h hsz; simp at hl; omega
    subst hm
    refine ⟨v, w, ?_, by simpa using hown, World.grownBy.refl w _, .inl rfl⟩
    rcases hown.2 with ⟨rfl, rfl⟩ | ⟨g, cap, cur, rfl, _, _, hnc, _⟩
    · simp [Builtin.append_, run_underlying ht, sizeOf, typeInfo, hi, Builtin.lenOf, Builtin.firstCells]
    · simp [Builtin.append_, run_underlying ht, sizeOf, typeInfo, hi, Builtin.lenOf, Builtin.firstCells, hnc, storeCells]
  | some ad =>
    obtain ⟨v', w', hrun, h2, h3, _, h5⟩ := run_append_own_at (P := P) w base t ty e i z size bytes ht hi hz hsize hby hzs hsz v n xs hown ad m c us hl (fun j u hj => by
      obtain ⟨k1, k2⟩ := hr j u hj
      rw [add_eq ad j (by simpa [okAd] using k1)]
      exact k2) h1 h63 hbytes hbase
    exact ⟨v', w', hrun, h2, h3, h5⟩
theorem wp_append_cells {o : Oper} {a : Act} {w : World} {K : Act → World → Prop} {Q : Exit → Act → World → Prop} (s x : Operand) (t : TypeId)
    (ho : o.op = .call { callee := .builtin .append, args := #[s, x], argTypes := #[t, t] })
    (base : Nat) (e : TypeId) (i : TypeInfo) (z : Value) (size bytes : Nat) (ht : P.underlying t = some (.slice e)) (hi : P.info? e = some i) (hz : i.zero = some z)
    (hsize : i.size = size) (hby : i.bytes = bytes) (hzs : z.cells.size = size) (hsz : 0 < size) (v : Value) (n : Nat) (xs : List Value) (hs : a.eval s = v) (hown : w.ownsRow base e size v n xs)
    (A : Option Addr) (m c : Nat) (us : List Value) (hx : a.eval x = .slice A m c) (hl : us.length = m * size) (hr : ∀ j u, us[j]? = some u → okAd A = true ∧ w.cell? (adr A j) = some u) (h1 : ∀ u ∈ us, u.oneCell' = true)
    (h63 : n + m ≤ maxLen) (hbytes : (n + m) * bytes ≤ 140737488355328) (hbase : base ≤ w.heap.size)
    (h : ∀ v' w', w'.ownsRow base e size v' (n + m) (xs ++ us) → w.grownBy w' v.ownBlock → (v'.ownBlock = v.ownBlock ∨ v'.ownBlock = some w.heap.size) → K (a.put o.dst v') w') : o.wp P a w K Q := by
  obtain ⟨v', w', hrun, h2, h3, h4⟩ := run_append_cells (P := P) w base t o.type e i z size bytes ht hi hz hsize hby hzs hsz v n xs hown A m c us hl hr h1 h63 hbytes hbase
  unfold Oper.wp execOp
  simp only [ho, resolve, invoke, builtin, Sem.run_bind, Sem.run_pure, Result.andThen_ok, List.map_toArray, List.map_cons, List.map_nil, hs, hx, hrun]
  exact h v' w' h2 h3 h4
theorem wpList_append_cells {ops : Array Oper} {rest : List Oper} {o : Oper} {a : Act} {w : World} {Q : Exit → Act → World → Prop} (hgd : o.guard = none) (s x : Operand) (t : TypeId)
    (ho : o.op = .call { callee := .builtin .append, args := #[s, x], argTypes := #[t, t] })
    (base : Nat) (e : TypeId) (i : TypeInfo) (z : Value) (size bytes : Nat) (ht : P.underlying t = some (.slice e)) (hi : P.info? e = some i) (hz : i.zero = some z)
    (hsize : i.size = size) (hby : i.bytes = bytes) (hzs : z.cells.size = size) (hsz : 0 < size) (v : Value) (n : Nat) (xs : List Value) (hs : a.eval s = v) (hown : w.ownsRow base e size v n xs)
    (A : Option Addr) (m c : Nat) (us : List Value) (hx : a.eval x = .slice A m c) (hl : us.length = m * size) (hr : ∀ j u, us[j]? = some u → okAd A = true ∧ w.cell? (adr A j) = some u) (h1 : ∀ u ∈ us, u.oneCell' = true)
    (h63 : n + m ≤ maxLen) (hbytes : (n + m) * bytes ≤ 140737488355328) (hbase : base ≤ w.heap.size)
    (h : ∀ v' w', w'.ownsRow base e size v' (n + m) (xs ++ us) → w.grownBy w' v.ownBlock → (v'.ownBlock = v.ownBlock ∨ v'.ownBlock = some w.heap.size) → wpList P ops Q rest (a.put o.dst v') w') : wpList P ops Q (o :: rest) a w :=
  wpList_plain hgd fun _ hK => wp_append_cells s x t ho base e i z size bytes ht hi hz hsize hby hzs hsz v n xs hs hown A m c us hx hl hr h1 h63 hbytes hbase fun v' w' h2 h3 h4 => hK _ _ (h v' w' h2 h3 h4)
end

/-- The reference's list of messages: its slice, the data; all of it lies in D. -/
structure RefAt (w : World) (base : Nat) (D : Nat → Prop) (v : Value) (ps : List RM) : Prop where
  own : w.ownsRow base 47 4 v ps.length (flM ps)
  rd : ∀ p ∈ ps, Sl (Value.int .u8) w p.1.a p.1.d ∧ p.1.d = p.2.data ∧ p.1.d ≠ []
  vD : ∀ k, v.ownBlock = some k → D k
  rD : ∀ p ∈ ps, D p.1.blk
  lt : ∀ k, D k → base ≤ k ∧ k < w.heap.size
section
variable {w w' : World} {base : Nat} {D : Nat → Prop} {v : Value} {ps : List RM}
theorem RefAt.shape (h : RefAt w base D v ps) : ∃ a c, v = .slice a ps.length c := by
  rcases h.own.2 with ⟨rfl, e⟩ | ⟨g, cap, cur, rfl, _⟩
  · exact ⟨none, 0, by rw [e]⟩
  · exact ⟨_, cap, rfl⟩
theorem RefAt.upd {S : Nat → Prop} (h : RefAt w base D v ps) (u : Upd S w w') (hs : ∀ k, D k → ¬ S k) : RefAt w' base D v ps :=
  ⟨own_upd h.own u fun g hg => hs g (h.vD g hg), fun p hp => ⟨(h.rd p hp).1.upd u fun _ => hs _ (h.rD p hp), (h.rd p hp).2⟩, h.vD, h.rD, fun k hk => ⟨(h.lt k hk).1, Nat.lt_of_lt_of_le (h.lt k hk).2 u.size⟩⟩
theorem RefAt.below (h : RefAt w base D v ps) (q : Below w.heap.size w w') : RefAt w' base D v ps := h.upd (S := fun _ => False) (Upd.of_below q) fun _ _ => id
theorem RefAt.slr {a : Option Addr} {n c : Nat} (h : RefAt w base D (.slice a n c) ps) : SlR w a ps := SlR.of_own h.own
theorem RefAt.nil : RefAt w base (fun _ => False) (.slice none 0 0) [] := ⟨World.ownsRow_nil _ _ _ _, (fun p hp => by cases hp), (fun k hk => by cases hk), (fun p hp => by cases hp), fun k hk => hk.elim⟩
end
def rmS (ps : List RM) : List Msg := ps.map Prod.snd
theorem openN_snoc (l : List Msg) (m : Msg) : openN (l ++ [m]) = openN l + (if m.st ≤ 2 then 1 else 0) := by
  rw [openN_append]
  congr 1
  unfold openN
  by_cases h : m.st ≤ 2 <;> simp [h]

set_option maxHeartbeats 4000000 in
set_option maxRecDepth 100000 in
theorem refOpen_any (w : World) (a : Option Addr) (c : Nat) (ps : List RM) (h : SlR w a ps) (hl : ps.length ≤ 1000) :
    Calls Try.prog 36 #[.slice a ps.length c] w fun e w' => e = .returned (.int .i64 (openN (rmS ps))) ∧ w = w' := by
  have H := Lib.hid h
  clear h
  have hO : ∀ k, k ≤ ps.length → openN ((rmS ps).take k) ≤ k := fun k hk => by
    have h1 : openN ((rmS ps).take k) ≤ ((rmS ps).take k).length := List.length_filter_le _ _
    rw [List.length_take] at h1
    omega
  have HO := Lib.hid hO
  clear hO
  go_enter Try.func36, Try.ntmps36
  go_wp2_with fail
  go_loop [3, 4] (fun n i => ∃ k : Nat, k ≤ ps.length ∧ i = .int .i64 k ∧ n = .int .i64 (openN ((rmS ps).take k))) (fun _ i => ps.length - (intOf i).toNat)
  case atStart => exact ⟨0, Nat.zero_le _, rfl, rfl⟩
  case round =>
    obtain ⟨k, hk, rfl, rfl⟩ := hrel
    have hok := HO.out k hk
    by_cases hlt : k < ps.length
    · obtain ⟨p, hp⟩ : ∃ p, ps[k]? = some p := ⟨ps[k], by simp [hlt]⟩
      obtain ⟨oka, c0, c1, c2, c3⟩ := H.out k p hp
      have hs : openN ((rmS ps).take (k + 1)) = openN ((rmS ps).take k) + (if p.2.st ≤ 2 then 1 else 0) := by
        have e : (rmS ps)[k]? = some p.2 := by unfold rmS; rw [List.getElem?_map, hp]; rfl
        rw [List.take_add_one, e]
        exact openN_snoc _ _
      have HS := Lib.hid hs
      have hki : (k : Int) < (ps.length : Int) := by omega
      clear hs hp
      generalize openN ((rmS ps).take k) = on at *
      by_cases h2 : p.2.st ≤ 2
      · have h2' : (p.2.st : Int) ≤ 2 := by omega
        have H2 := Lib.hid h2
        clear h2
        go_wp2_with fail
        go_round
        case rel => exact ⟨k + 1, by omega, by go_num, by rw [HS.out, if_pos H2.out]; go_num⟩
        case measure => simp [intOf]; omega
      · have h2' : ¬ (p.2.st : Int) ≤ 2 := by omega
        have H2 := Lib.hid h2
        clear h2
        go_wp2_with fail
        go_round
        case rel => exact ⟨k + 1, by omega, by go_num, by rw [HS.out, if_neg H2.out]; rfl⟩
        case measure => simp [intOf]; omega
    · obtain rfl : k = ps.length := by omega
      go_wp2_with fail
      go_ret
      exact ⟨by rw [List.take_of_length_le (by unfold rmS; rw [List.length_map]; exact Nat.le_refl _)]; rfl, rfl⟩
end Go.Proofs.Ytjljjohoipnhhaa
