/-
  Append of cells (from l45/XRefM).
  reorder.Store: Gaps' closure.
  reorder.Store: Gaps.
-/
import Derived.Test.YtkaaoomliepijaaGreatQKeys
namespace Go.Proofs.YtkaaoomliepijaaGreat
open Go.RowKit
set_option linter.unusedVariables false

section
variable {P : Program}
theorem run_append_cells (w : World) (base : Nat) (t ty e : TypeId) (i : TypeInfo) (z : Value) (size bytes : Nat) (ht : P.underlying t = some (.slice e)) (hi : P.info? e = some i) (hz : i.zero = some z)
    (hsize : i.size = size) (hby : i.bytes = bytes) (hzs : z.cells.size = size) (hsz : 0 < size) (v : Value) (n : Nat) (xs : List Value) (hown : w.ownsRow base e size v n xs)
    (A : Option Addr) (m c : Nat) (us : List Value) (hl : us.length = m * size) (hr : ∀ j u, us[j]? = some u → okAd A = true ∧ w.cell? (adr A j) = some u) (h1 : ∀ u ∈ us, u.oneCell' = true)
    (h63 : n + m ≤ maxLen) (hbytes : (n + m) * bytes ≤ 140737488355328) (hbase : base ≤ w.heap.size) :
    ∃ v' w', (Builtin.append_ #[t, t] ty #[v, .slice A m c]).run P w = .ok v' w' ∧ w'.ownsRow base e size v' (n + m) (xs ++ us) ∧ w.grownBy w' v.ownBlock ∧
      (v'.ownBlock = v.ownBlock ∨ v'.ownBlock = some w.heap.size) := by
  cases A with
  | none =>
    have hy : us = [] := by
      cases us with
      | nil => rfl
      | cons y l => exact absurd (hr 0 y rfl).1 (by simp [okAd])
    subst hy
    have hm : m = 0 := by
      rcases Nat.eq_zero_or_pos m with h | h
      · exact h
      · have := Nat.mul_pos h hsz; simp at hl; omega
    subst hm
    refine ⟨v, w, ?_, by simpa using hown, World.grownBy.refl w _, .inl rfl⟩
    rcases hown.2 with ⟨rfl, rfl⟩ | ⟨g, cap, cur, rfl, _, _, hnc, _⟩
    · simp [Builtin.append_, run_underlying ht, sizeOf, typeInfo, hi, Builtin.lenOf, Builtin.firstCells]
    · simp [Builtin.append_, run_underlying ht, sizeOf, typeInfo, hi, Builtin.lenOf, Builtin.firstCells, hnc, storeCells]
  | some ad =>
    obtain ⟨v', w', hrun, h2, h3, _, h5⟩ := run_append_own_at (P := P) w base t ty e i z size bytes ht hi hz hsize hby hzs hsz v n xs hown ad m c us hl (fun j u hj => by
      obtain ⟨k1, k2⟩ := hr j u hj
      rw [add_eq ad j (by simpa [okAd] using k1)]
      exact k2) h1 h63 hbytes hbase
    exact ⟨v', w', hrun, h2, h3, h5⟩
theorem wp_append_cells {o : Oper} {a : Act} {w : World} {K : Act → World → Prop} {Q : Exit → Act → World → Prop} (s x : Operand) (t : TypeId)
    (ho : o.op = .call { callee := .builtin .append, args := #[s, x], argTypes := #[t, t] })
    (base : Nat) (e : TypeId) (i : TypeInfo) (z : Value) (size bytes : Nat) (ht : P.underlying t = some (.slice e)) (hi : P.info? e = some i) (hz : i.zero = some z)
    (hsize : i.size = size) (hby : i.bytes = bytes) (hzs : z.cells.size = size) (hsz : 0 < size) (v : Value) (n : Nat) (xs : List Value) (hs : a.eval s = v) (hown : w.ownsRow base e size v n xs)
    (A : Option Addr) (m c : Nat) (us : List Value) (hx : a.eval x = .slice A m c) (hl : us.length = m * size) (hr : ∀ j u, us[j]? = some u → okAd A = true ∧ w.cell? (adr A j) = some u) (h1 : ∀ u ∈ us, u.oneCell' = true)
    (h63 : n + m ≤ maxLen) (hbytes : (n + m) * bytes ≤ 140737488355328) (hbase : base ≤ w.heap.size)
    (h : ∀ v' w', w'.ownsRow base e size v' (n + m) (xs ++ us) → w.grownBy w' v.ownBlock → (v'.ownBlock = v.ownBlock ∨ v'.ownBlock = some w.heap.size) → K (a.put o.dst v') w') : o.wp P a w K Q := by
  obtain ⟨v', w', hrun, h2, h3, h4⟩ := run_append_cells (P := P) w base t o.type e i z size bytes ht hi hz hsize hby hzs hsz v n xs hown A m c us hl hr h1 h63 hbytes hbase
  unfold Oper.wp execOp
  simp only [ho, resolve, invoke, builtin, Sem.run_bind, Sem.run_pure, Result.andThen_ok, List.map_toArray, List.map_cons, List.map_nil, hs, hx, hrun]
  exact h v' w' h2 h3 h4
theorem wpList_append_cells {ops : Array Oper} {rest : List Oper} {o : Oper} {a : Act} {w : World} {Q : Exit → Act → World → Prop} (hgd : o.guard = none) (s x : Operand) (t : TypeId)
    (ho : o.op = .call { callee := .builtin .append, args := #[s, x], argTypes := #[t, t] })
    (base : Nat) (e : TypeId) (i : TypeInfo) (z : Value) (size bytes : Nat) (ht : P.underlying t = some (.slice e)) (hi : P.info? e = some i) (hz : i.zero = some z)
    (hsize : i.size = size) (hby : i.bytes = bytes) (hzs : z.cells.size = size) (hsz : 0 < size) (v : Value) (n : Nat) (xs : List Value) (hs : a.eval s = v) (hown : w.ownsRow base e size v n xs)
    (A : Option Addr) (m c : Nat) (us : List Value) (hx : a.eval x = .slice A m c) (hl : us.length = m * size) (hr : ∀ j u, us[j]? = some u → okAd A = true ∧ w.cell? (adr A j) = some u) (h1 : ∀ u ∈ us, u.oneCell' = true)
    (h63 : n + m ≤ maxLen) (hbytes : (n + m) * bytes ≤ 140737488355328) (hbase : base ≤ w.heap.size)
    (h : ∀ v' w', w'.ownsRow base e size v' (n + m) (xs ++ us) → w.grownBy w' v.ownBlock → (v'.ownBlock = v.ownBlock ∨ v'.ownBlock = some w.heap.size) → wpList P ops Q rest (a.put o.dst v') w') : wpList P ops Q (o :: rest) a w :=
  wpList_plain hgd fun _ hK => wp_append_cells s x t ho base e i z size bytes ht hi hz hsize hby hzs hsz v n xs hs hown A m c us hx hl hr h1 h63 hbytes hbase fun v' w' h2 h3 h4 => hK _ _ (h v' w' h2 h3 h4)
end
theorem Tryz.infoPair : (Tryz.prog.info? 145).map (fun i => (i.zero, i.size, i.bytes)) = some (some (.agg #[.int .i64 0, .int .i64 0]), 2, 16) := by kernel_rfl
/-- Pairs of numbers as cells. -/
def flP : List (Int × Int) → List Value
  | [] => []
  | p :: l => [Value.int .i64 p.1, Value.int .i64 p.2] ++ flP l
theorem flP_len : ∀ (l : List (Int × Int)), (flP l).length = l.length * 2
  | [] => rfl
  | p :: l => by
    show ([Value.int .i64 p.1, Value.int .i64 p.2] ++ flP l).length = _
    simp only [List.length_append, flP_len l, List.length_cons, List.length_nil]
    omega
theorem flP_append : ∀ (a b : List (Int × Int)), flP (a ++ b) = flP a ++ flP b
  | [], b => rfl
  | p :: a, b => by
    show [Value.int .i64 p.1, Value.int .i64 p.2] ++ flP (a ++ b) = ([Value.int .i64 p.1, Value.int .i64 p.2] ++ flP a) ++ flP b
    rw [flP_append a b, List.append_assoc]
theorem flP_one : ∀ (l : List (Int × Int)), ∀ u ∈ flP l, u.oneCell' = true
  | [], u, h => by cases h
  | p :: l, u, h => by
    rcases List.mem_append.1 h with h | h
    · simp only [List.mem_cons, List.not_mem_nil, or_false] at h
      rcases h with rfl | rfl <;> rfl
    · exact flP_one l u h
theorem flP_get : ∀ {l : List (Int × Int)} {j : Nat} {p : Int × Int}, l[j]? = some p → (flP l)[j * 2]? = some (.int .i64 p.1) ∧ (flP l)[j * 2 + 1]? = some (.int .i64 p.2)
  | [], j, p, h => by simp at h
  | q :: l, 0, p, h => by
    simp at h
    subst h
    exact ⟨rfl, rfl⟩
  | q :: l, j + 1, p, h => by
    have ih := flP_get (l := l) (j := j) (p := p) (by simpa using h)
    have e : ∀ k, (flP (q :: l))[(j + 1) * 2 + k]? = (flP l)[j * 2 + k]? := fun k => by
      show ([Value.int .i64 q.1, Value.int .i64 q.2] ++ flP l)[(j + 1) * 2 + k]? = _
      rw [List.getElem?_append_right (by show 2 ≤ _; omega)]
      congr 1
      show (j + 1) * 2 + k - 2 = _
      omega
    exact ⟨(e 0).trans ih.1, (e 1).trans ih.2⟩
end Go.Proofs.YtkaaoomliepijaaGreat
namespace Go.Proofs.YtkaaoomliepijaaGreat
open Go.RowKit
set_option linter.unusedVariables false

/-- The list of gaps and the offset from which the next one counts. -/
structure GpAt (w : World) (base fb lb fr : Nat) (v : Value) (ps : List (Int × Int)) : Prop where
  f : Blk w fb 3 [.int .i64 fr]
  l : Blk w lb 143 [v]
  o : w.ownsRow base 145 2 v ps.length (flP ps)
  n1 : fb < base
  n2 : lb < base
  n3 : fb ≠ lb
  bs : base ≤ w.heap.size
theorem own_base {w : World} {base : Nat} {e : TypeId} {size : Nat} {v : Value} {n : Nat} {xs : List Value} (h : w.ownsRow base e size v n xs) {k : Nat} (hk : v.ownBlock = some k) : base ≤ k := by
  rcases h.2 with ⟨rfl, _⟩ | ⟨g, cap, cur, rfl, h1, _⟩
  · cases hk
  · have : g = k := by simpa [Value.ownBlock] using hk
    omega
def gpL (ps : List (Int × Int)) (fr tt : Nat) : List (Int × Int) := if fr < tt then ps ++ [((fr : Int), (tt : Int))] else ps
theorem flP_pair (fr tt : Nat) : flP [((fr : Int), (tt : Int))] = [Value.int .i64 fr, Value.int .i64 tt] := rfl
set_option maxHeartbeats 4000000 in
set_option maxRecDepth 100000 in
theorem gap_any (w : World) (base fb lb fr tt B : Nat) (v : Value) (ps : List (Int × Int)) (h : GpAt w base fb lb fr v ps) (hps : ps.length ≤ 5000) (hB : B ≤ lb) (hB2 : B ≤ base) :
    Calls Tryz.prog 84 #[.int .i64 tt, .pointer (some ⟨fb, 0, none⟩), .pointer (some ⟨lb, 0, none⟩)] w fun e w' => e = .returned (.tuple #[]) ∧ ∃ v', GpAt w' base fb lb fr v' (gpL ps fr tt) ∧ Below B w w' ∧ Upd (fun k => k = lb ∨ v.ownBlock = some k) w w' ∧ (∀ g, v'.ownBlock = some g → v.ownBlock = some g ∨ w.heap.size ≤ g) := by
  have cf := h.f.cell (i := 0) rfl
  have cl := h.l.cell (i := 0) rfl
  have hlz := h.l.lt
  have H := Lib.hid h
  obtain ⟨i1, hi, hz0, hz1, hz2⟩ := info_parts Tryz.infoPair
  have JI := Lib.hid hi; have JZ0 := Lib.hid hz0; have JZ1 := Lib.hid hz1; have JZ2 := Lib.hid hz2
  clear h hi hz0 hz1 hz2
  by_cases hc : fr < tt
  · go_enter Tryz.func84, Tryz.ntmps84
    have hw : Hid (Blk (w.alloc (.cells #[.int .i64 fr, .int .i64 tt] 145)) w.heap.size 145 [.int .i64 fr, .int .i64 tt]) := Blk.new w _ [.int .i64 fr, .int .i64 tt]
    have O1 := Lib.hid (own_upd H.out.o (Upd.of_below (S := fun _ => False) (alloc_belQ w (.cells #[.int .i64 fr, .int .i64 tt] 145))) (fun _ _ => id))
    have hcells : ∀ j u, ([Value.int .i64 fr, Value.int .i64 tt])[j]? = some u → okAd (some ⟨w.heap.size, 0, none⟩) = true ∧ (w.alloc (.cells #[.int .i64 fr, .int .i64 tt] 145)).cell? (adr (some ⟨w.heap.size, 0, none⟩) j) = some u := fun j u hj => by
      have e : adr (some ⟨w.heap.size, 0, none⟩) j = ⟨w.heap.size, j, none⟩ := by simp [adr]
      rw [e]; exact ⟨rfl, hw.out.cell hj⟩
    have HC := Lib.hid hcells
    clear hcells
    go_wp2_with (at_builtin; refine wpList_append_cells rfl _ _ 143 rfl base 145 i1 _ 2 16 Tryz.underlying143 JI.out JZ0.out JZ1.out JZ2.out rfl (by decide) v ps.length (flP ps) rfl O1.out (some ⟨w.heap.size, 0, none⟩) 1 1 [.int .i64 fr, .int .i64 tt] rfl rfl HC.out (flP_one [((fr : Int), (tt : Int))]) ?c1 ?c2 ?c3 ?_)
    case c1 => unfold maxLen; omega
    case c2 => omega
    case c3 => have := H.out.bs; simp; omega
    intro v1 w2 g1 g2 g3
    have U2 := Upd.of_grownV g2
    have BA := alloc_belQ w (.cells #[.int .i64 fr, .int .i64 tt] 145)
    have hob : ∀ k, v.ownBlock = some k → base ≤ k := fun k hk => own_base H.out.o hk
    have F2 := Lib.hid ((H.out.f.bel BA).upd U2 (fun e => by have := hob _ e; have := H.out.n1; omega))
    have L2 := Lib.hid ((H.out.l.bel BA).upd U2 (fun e => by have := hob _ e; have := H.out.n2; omega))
    have B2 : Hid (Below B w w2) := Upd.below (Below.mono BA (by have := H.out.bs; omega)) U2 (by simp; have := H.out.bs; omega) (fun i hi => by have := hob i hi; omega)
    have G1 := Lib.hid g1
    have hl2 := L2.out.cell (i := 0) rfl
    have hlz2 := L2.out.lt
    have hlf := L2.out.free
    have U4 := Lib.hid (Upd.then (Upd.of_below (S := fun k => k = lb ∨ v.ownBlock = some k) BA) (U2.mono (fun _ _ h => h)) (fun _ _ h => .inr h))
    have N4 : Hid (∀ g, v1.ownBlock = some g → v.ownBlock = some g ∨ w.heap.size ≤ g) := fun g hg => by
      rcases g3 with e | e
      · exact .inl (by rw [← e]; exact hg)
      · rw [e] at hg; injection hg with hg; exact .inr (by first | omega | (simp at hg; omega) | (have := alloc_belQ w (.cells #[.int .i64 fr, .int .i64 tt] 145); have := this.size; omega))
    clear g1 g2 g3 U2 BA
    have L3 := Lib.hid (L2.out.set 0 v1)
    have F3 := Lib.hid (F2.out.setO (a := ⟨lb, 0, none⟩) v1 H.out.n3)
    have B3 := Lib.hid (B2.out.setCell (p := ⟨lb, 0, none⟩) hB v1)
    have G3 := Lib.hid (own_upd G1.out ((Upd.refl (fun k => k = lb) w2).setCell ⟨lb, 0, none⟩ v1 (fun _ => rfl)) (fun g hg e => by have := own_base G1.out hg; have := H.out.n2; omega))
    have hzz : base ≤ w2.heap.size := by have := B2.out.size; have := H.out.bs; have h3 := F2.out.lt; omega
    clear cf cl
    obtain ⟨a1, c1, rfl, -⟩ := own_shape G1.out
    go_wp2_with fail
    go_end0
    refine ⟨rfl, _, ⟨F3.out, L3.out, ?_, H.out.n1, H.out.n2, H.out.n3, by simpa using hzz⟩, B3.out, U4.out.setCell _ _ (fun _ => .inl rfl), N4.out⟩
    unfold gpL
    rw [if_pos hc, flP_append, flP_pair, List.length_append]
    exact G3.out
  · go_enter Tryz.func84, Tryz.ntmps84
    go_wp2_with fail
    go_end0
    refine ⟨rfl, v, ?_, Below.refl _ _, Upd.refl _ _, fun _ h => .inl h⟩
    unfold gpL
    rw [if_neg hc]
    exact H.out
end Go.Proofs.YtkaaoomliepijaaGreat
namespace Go.Proofs.YtkaaoomliepijaaGreat
open Go.RowKit
set_option linter.unusedVariables false

/-- The gaps before the kept offsets l, and the offset behind the last one. -/
def gpR (off : Nat) (l : List Int) : List (Int × Int) × Nat := l.foldl (fun s x => (gpL s.1 s.2 x.toNat, x.toNat + 1)) ([], off)
theorem gpR_snoc (off : Nat) (l : List Int) (x : Int) : gpR off (l ++ [x]) = (gpL (gpR off l).1 (gpR off l).2 x.toNat, x.toNat + 1) := by unfold gpR; rw [List.foldl_append]; rfl
theorem gpL_len (ps : List (Int × Int)) (fr tt : Nat) : (gpL ps fr tt).length ≤ ps.length + 1 := by unfold gpL; split <;> simp
theorem gpR_len' : ∀ (l : List Int) (s : List (Int × Int) × Nat), (l.foldl (fun s x => (gpL s.1 s.2 x.toNat, x.toNat + 1)) s).1.length ≤ s.1.length + l.length
  | [], s => Nat.le_refl _
  | x :: l, s => by
    have h1 := gpR_len' l (gpL s.1 s.2 x.toNat, x.toNat + 1)
    have h2 := gpL_len s.1 s.2 x.toNat
    simp only [List.foldl_cons, List.length_cons]
    simp only at h1
    omega
theorem gpR_len (off : Nat) (l : List Int) : (gpR off l).1.length ≤ l.length := by have := gpR_len' l ([], off); simpa [gpR] using this
theorem offs_len (F : Nat → Option Int) : (offs F).length ≤ 4096 := by
  unfold offs; rw [List.length_map]; exact Nat.le_trans (List.length_filter_le _ _) (by simp)
structure GsAt (w wr : World) (off : Nat) (F : Nat → Option Int) (sv v : Value) (k : Nat) : Prop where
  g : GpAt wr (w.heap.size + 2) (w.heap.size + 1) w.heap.size (gpR off ((offs F).take k)).2 v (gpR off ((offs F).take k)).1
  s : Rw (Value.int .i64) 3 wr (w.heap.size + 3) sv (offs F)
  nb : ∀ g, v.ownBlock = some g → sv.ownBlock ≠ some g
  b : Below w.heap.size w wr
def GsRel (w : World) (off : Nat) (F : Nat → Option Int) (sv ix : Value) (wr : World) : Prop := ∃ (k : Nat) (v : Value), k ≤ (offs F).length ∧ ix = .int .i64 k ∧ Hid (GsAt w wr off F sv v k)
theorem gs_step {w wr w5 : World} {off k i : Nat} {F : Nat → Option Int} {sv v v5 : Value} (T : GsAt w wr off F sv v k) (ey : (offs F)[k]? = some (i : Int))
    (g5 : GpAt w5 (w.heap.size + 2) (w.heap.size + 1) w.heap.size (gpR off ((offs F).take k)).2 v5 (gpL (gpR off ((offs F).take k)).1 (gpR off ((offs F).take k)).2 i)) (b5 : Below w.heap.size wr w5)
    (u5 : Upd (fun j => j = w.heap.size ∨ v.ownBlock = some j) wr w5) (n5 : ∀ g, v5.ownBlock = some g → v.ownBlock = some g ∨ wr.heap.size ≤ g) :
    GsAt w (w5.setCell ⟨w.heap.size + 1, 0, none⟩ (.int .i64 ((i : Int) + 1))) off F sv v5 (k + 1) := by
  have e : (offs F).take (k + 1) = (offs F).take k ++ [(i : Int)] := by rw [List.take_add_one, ey]; rfl
  have eg : gpR off ((offs F).take (k + 1)) = (gpL (gpR off ((offs F).take k)).1 (gpR off ((offs F).take k)).2 i, i + 1) := by rw [e, gpR_snoc]; rfl
  have us : Upd (fun j => j = w.heap.size + 1) w5 (w5.setCell ⟨w.heap.size + 1, 0, none⟩ (.int .i64 ((i : Int) + 1))) := (Upd.refl _ w5).setCell _ _ (fun _ => rfl)
  refine ⟨?_, ?_, ?_, (T.b.trans b5).setCell (by dsimp only; omega) _⟩
  · rw [eg]
    exact ⟨g5.f.set 0 (.int .i64 ((i : Int) + 1)), g5.l.setO _ (by dsimp only; omega), own_upd g5.o us (fun g hg e => by have := own_base g5.o hg; omega), g5.n1, g5.n2, g5.n3, by have := us.size; have := g5.bs; omega⟩
  · refine (T.s.upd u5 (fun j hj e => ?_)).upd us (fun j hj e => ?_)
    · have := T.s.lt hj
      rcases e with e | e
      · omega
      · exact T.nb _ e hj
    · have := T.s.lt hj; omega
  · intro g hg e
    rcases n5 g hg with h | h
    · exact T.nb g h e
    · have := T.s.lt e; omega
set_option maxHeartbeats 8000000 in
set_option maxRecDepth 100000 in
theorem gaps_any (w : World) (sb mb off nxt : Nat) (F : Nat → Option Int) (h : StAt w sb mb off nxt F) :
    Calls Tryz.prog 80 #[.pointer (some ⟨sb, 0, none⟩)] w fun e w' => ∃ v, e = .returned v ∧ w'.ownsRow (w.heap.size + 2) 145 2 v (gpR off (offs F)).1.length (flP (gpR off (offs F)).1) ∧ Below w.heap.size w w' := by
  have H := Lib.hid h
  have c1 := h.b.cell (i := 1) rfl
  have c3 := h.b.cell (i := 3) rfl
  have cz := h.b.lt
  have KE := Lib.hid (fun w' => keys_any (some mb) w')
  have SO := Lib.hid (fun w' (q : Below w.heap.size w w') => sorted_any w' mb F (H.out.m.below q))
  clear h
  go_enter Tryz.func80, Tryz.ntmps80
  go_wp2_with fail
  have hz2 : ((w.alloc (.cells #[.slice none 0 0] 143)).alloc (.cells #[.int .i64 off] 3)).heap.size = w.heap.size + 2 := by simp
  have B2 : Hid (Below w.heap.size w ((w.alloc (.cells #[.slice none 0 0] 143)).alloc (.cells #[.int .i64 off] 3))) := below_then (alloc_belQ _ _) (alloc_belQ _ _) (by simp)
  have hz1 : (w.alloc (.cells #[.slice none 0 0] 143)).heap.size = w.heap.size + 1 := by simp
  have F2 := Blk.new (w.alloc (.cells #[.slice none 0 0] 143)) 3 [.int .i64 off]
  rw [hz1] at F2
  have G0 : Hid (GpAt ((w.alloc (.cells #[.slice none 0 0] 143)).alloc (.cells #[.int .i64 off] 3)) (w.heap.size + 2) (w.heap.size + 1) w.heap.size off (.slice none 0 0) []) :=
    ⟨F2, (Blk.new w 143 [.slice none 0 0]).bel (alloc_belQ _ _), World.ownsRow_nil _ _ _ _, by omega, by omega, by omega, by omega⟩
  clear F2
  generalize (w.alloc (.cells #[.slice none 0 0] 143)).alloc (.cells #[.int .i64 off] 3) = w2 at *
  refine (KE.out w2).mono ?_
  rintro e w3 ⟨rfl, rfl⟩
  go_wp2_with fail
  have SOx := SO.out w2 B2.out
  rw [hz2] at SOx
  refine SOx.mono ?_
  rintro e w4 ⟨sv, rfl, hrow, hB4⟩
  rw [← hz2] at hB4
  have R4 : Hid (Rw (Value.int .i64) 3 w4 (w.heap.size + 3) sv (offs F)) := Rw.of_own hrow
  have T4 : Hid (GsAt w w4 off F sv (.slice none 0 0) 0) := ⟨⟨G0.out.f.bel hB4, G0.out.l.bel hB4, World.ownsRow_nil _ _ _ _, by omega, by omega, by omega, by have := hB4.size; omega⟩, R4.out, fun g h => by (cases h), below_then B2.out hB4 B2.out.size⟩
  obtain ⟨sa, sc, rfl, -⟩ := id R4.out
  clear hrow hB4 SOx R4 G0 B2 KE SO c1 c3 hz1
  go_wp2_with fail
  go_loopw [22] (fun ix wr => GsRel w off F (.slice sa (offs F).length sc) ix wr) (fun ix _ => (offs F).length - (intOf ix).toNat)
  case atStart => exact ⟨0, _, Nat.zero_le _, rfl, T4⟩
  case round =>
    clear T4
    obtain ⟨k, v, hk, rfl, T⟩ := hrel
    by_cases hkn : k < (offs F).length
    · obtain ⟨y, ey⟩ : ∃ y, (offs F)[k]? = some y := ⟨(offs F)[k], by simp [hkn]⟩
      obtain ⟨i, hi, -, rfl⟩ := offs_mem.1 (List.mem_of_getElem? ey)
      obtain ⟨oka, cy⟩ := T.out.s.sl k _ ey
      have hle := Nat.le_trans (gpR_len off ((offs F).take k)) (by rw [List.length_take]; omega : ((offs F).take k).length ≤ k)
      have hol := offs_len F
      have GP := Lib.hid (gap_any wr _ _ _ _ i w.heap.size v _ T.out.g (by omega) (Nat.le_refl _) (by omega))
      replace ey := Lib.hid ey
      clear hle
      generalize hn : (offs F).length = n at *
      go_wp2_with fail
      refine GP.out.mono ?_
      rintro e w5 ⟨rfl, v5, g5, b5, u5, n5⟩
      have T6 := Lib.hid (gs_step T.out ey.out g5 b5 u5 n5)
      have c5 := g5.f.cell (i := 0) rfl
      have z5 := g5.f.lt
      have f5 := g5.f.free
      clear g5 b5 u5 n5 GP T
      go_wp2_with fail
      go_roundw
      case rel => exact ⟨k + 1, _, by omega, by go_num, T6⟩
      case measure => simp [intOf]; omega
    · have hS := H.out.below T.out.b
      have d5 := hS.b.cell (i := 5) rfl
      have dz := hS.b.lt
      have l0 := T.out.g.l.cell (i := 0) rfl
      have lz := T.out.g.l.lt
      clear hS
      go_wp2_with fail
      go_ret
      have hkl : (offs F).take k = offs F := List.take_of_length_le (by omega)
      refine ⟨v, rfl, ?_, T.out.b⟩
      have := T.out.g.o
      rw [hkl] at this
      exact this
end Go.Proofs.YtkaaoomliepijaaGreat
