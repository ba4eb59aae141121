/-
  move's runs: rows of segments (3 cells each) and their data.
  move's runs: the closure that reads.
-/
import Derived.Test.YtkaaoomliepijaaGreatQGs
namespace Go.Proofs.YtkaaoomliepijaaGreat
open Go.RowKit
set_option linter.unusedVariables false

theorem Tryz.infoSeg : (Tryz.prog.info? 67).map (fun i => (i.zero, i.size, i.bytes)) = some (some (.agg #[.int .i64 0, .slice none 0 0, .bool false]), 3, 40) := by kernel_rfl
/-- A segment of a run: its offset, where its bytes lie, the bytes. -/
structure Sgm where
  o : Nat
  a : Option Addr
  c : Nat
  d : List Int
def sgV (s : Sgm) : List Value := [.int .i64 s.o, .slice s.a s.d.length s.c, .bool false]
def flS : List Sgm → List Value
  | [] => []
  | p :: l => sgV p ++ flS l
theorem flS_len : ∀ (l : List Sgm), (flS l).length = l.length * 3
  | [] => rfl
  | p :: l => by
    show (sgV p ++ flS l).length = _
    rw [List.length_append, flS_len l, List.length_cons]
    show 3 + _ = _
    omega
theorem flS_append : ∀ (a b : List Sgm), flS (a ++ b) = flS a ++ flS b
  | [], b => rfl
  | p :: a, b => by
    show sgV p ++ flS (a ++ b) = (sgV p ++ flS a) ++ flS b
    rw [flS_append a b, List.append_assoc]
theorem flS_one : ∀ (l : List Sgm), ∀ u ∈ flS l, u.oneCell' = true
  | [], u, h => by cases h
  | p :: l, u, h => by
    rcases List.mem_append.1 h with h | h
    · simp only [sgV, List.mem_cons, List.not_mem_nil, or_false] at h
      rcases h with rfl | rfl | rfl <;> rfl
    · exact flS_one l u h
theorem flS_get : ∀ {l : List Sgm} {j : Nat} {p : Sgm}, l[j]? = some p → ∀ k, k < 3 → (flS l)[j * 3 + k]? = (sgV p)[k]?
  | [], j, p, h, _, _ => by simp at h
  | q :: l, 0, p, h, k, hk => by
    simp at h
    subst h
    show (sgV q ++ flS l)[0 * 3 + k]? = _
    rw [List.getElem?_append_left (by show _ < 3; omega), Nat.zero_mul, Nat.zero_add]
  | q :: l, j + 1, p, h, k, hk => by
    have ih := flS_get (l := l) (j := j) (p := p) (by simpa using h) k hk
    show (sgV q ++ flS l)[(j + 1) * 3 + k]? = _
    rw [List.getElem?_append_right (by show 3 ≤ _; omega), ← ih]
    congr 1
    show (j + 1) * 3 + k - 3 = _
    omega
/-- The list of runs under way, its slice v; each segment's data in a row of its own, at base or above. -/
structure RnAt (w : World) (base lb tb sb : Nat) (v : Value) (ss : List Sgm) : Prop where
  l : Blk w lb 106 [v]
  t : Blk w tb 59 [.pointer (some ⟨sb, 0, none⟩)]
  o : w.ownsRow base 67 3 v ss.length (flS ss)
  d : ∀ s ∈ ss, Rw (Value.int .u8) 5 w base (.slice s.a s.d.length s.c) s.d ∧ ∀ g, v.ownBlock = some g → (Value.slice s.a s.d.length s.c).ownBlock ≠ some g
  n1 : lb < base
  n2 : tb < base
  n3 : lb ≠ tb
  bs : base ≤ w.heap.size
set_option maxHeartbeats 1000000 in
set_option maxRecDepth 100000 in
theorem run_none (w : World) (lb tb : Nat) (n : Int) (hn : ¬ n > 0) :
    Calls Tryz.prog 79 #[.int .i64 n, .pointer (some ⟨lb, 0, none⟩), .pointer (some ⟨tb, 0, none⟩)] w fun e w' => e = .returned (.tuple #[]) ∧ w = w' := by
  have hn2 : ¬ (0 : Int) < n := hn
  go_enter Tryz.func79, Tryz.ntmps79
  go_wp2_with fail
  go_end0
  exact ⟨rfl, rfl⟩
end Go.Proofs.YtkaaoomliepijaaGreat
namespace Go.Proofs.YtkaaoomliepijaaGreat
open Go.RowKit
set_option linter.unusedVariables false

theorem seg_build2 (w : World) (o : Int) (a : Option Addr) (n c : Nat) : (Instr.build 67 #[(0, .int .i64 o), (1, .slice a n c)]).run Tryz.prog w = .ok (.agg #[.int .i64 o, .slice a n c, .bool false]) w := by
  go_simp
theorem seg_cells (w : World) (o : Nat) (ra : Option Addr) (n c : Nat) : ∀ j u, ([Value.int .i64 o, .slice ra n c, .bool false])[j]? = some u → okAd (some ⟨w.heap.size, 0, none⟩) = true ∧ (w.alloc (.cells #[.int .i64 o, .slice ra n c, .bool false] 67)).cell? (adr (some ⟨w.heap.size, 0, none⟩) j) = some u := fun j u hj => by
  have e : adr (some ⟨w.heap.size, 0, none⟩) j = ⟨w.heap.size, j, none⟩ := by simp [adr]
  rw [e]; exact ⟨rfl, (Blk.new w 67 [.int .i64 o, .slice ra n c, .bool false]).cell hj⟩
set_option maxHeartbeats 8000000 in
set_option maxRecDepth 100000 in
theorem run_some (w : World) (base lb tb sb mb off nxt most : Nat) (v : Value) (ss : List Sgm) (F : Nat → Option Int) (h : RnAt w base lb tb sb v ss) (hs : StAt w sb mb off nxt F) (hle : off ≤ nxt) (hnx : nxt ≤ 2000) (hm : 1 ≤ most) (hm2 : most ≤ 100000) (hsl : ss.length ≤ 5000) (hd : ∀ k, stS sb mb k → k ≠ lb ∧ k ≠ tb ∧ k < base) :
    Calls Tryz.prog 79 #[.int .i64 most, .pointer (some ⟨lb, 0, none⟩), .pointer (some ⟨tb, 0, none⟩)] w fun e w' => e = .returned (.tuple #[]) ∧ ∃ (v' : Value) (a : Option Addr) (c : Nat),
      RnAt w' base lb tb sb v' (ss ++ [⟨off, a, c, rdL F off (min most (nxt - off))⟩]) ∧ StAt w' sb mb (off + min most (nxt - off)) nxt (rmF F off (min most (nxt - off))) ∧ Upd (fun k => stS sb mb k ∨ k = lb ∨ v.ownBlock = some k) w w' ∧ (∀ g, v'.ownBlock = some g → v.ownBlock = some g ∨ w.heap.size ≤ g) := by
  have OF := Lib.hid (offset_any w.drew sb mb off nxt F (hs.below (Qt.below (Qt.refl w).drew _)))
  have RD := Lib.hid (read_st w.drew sb mb off nxt most F (hs.below (Qt.below (Qt.refl w).drew _)) hle hnx hm hm2)
  unfold RdP at RD
  obtain ⟨q, hq⟩ : ∃ q, min most (nxt - off) = q := ⟨_, rfl⟩
  obtain ⟨dl, hdl⟩ : ∃ dl, rdL F off q = dl := ⟨_, rfl⟩
  rw [hq, hdl]
  rw [hq, hdl] at RD
  obtain ⟨i1, hi, hz0, hz1, hz2⟩ := info_parts Tryz.infoSeg
  have JI := Lib.hid hi; have JZ0 := Lib.hid hz0; have JZ1 := Lib.hid hz1; have JZ2 := Lib.hid hz2
  have hdq : dl.length = q := by rw [← hdl, rdL_len]
  clear hi hz0 hz1 hz2 hdl
  have DQ := Lib.hid (Qt.below (Qt.refl w).drew w.heap.size)
  have H := Lib.hid h
  have HS := Lib.hid hs
  have HD := Lib.hid hd
  have cl := h.l.cell (i := 0) rfl
  have ct := h.t.cell (i := 0) rfl
  have hm3 : (0 : Int) < (most : Int) := by omega
  obtain ⟨va, vc, rfl, -⟩ := own_shape h.o
  clear h hs hd
  go_enter Tryz.func79, Tryz.ntmps79
  go_wp2_with fail
  refine wp_region_lastH (fun wx => wx.cell? ⟨lb, 0, none⟩ = some (.slice va ss.length vc) ∧ wx.cell? ⟨tb, 0, none⟩ = some (.pointer (some ⟨sb, 0, none⟩))) 9 10 (by kernel_rfl) (by kernel_rfl) rfl rfl ?_ (fun hHeld => ?_)
  · (exact ⟨cl, ct⟩)
  simp only [nopFor, List.set_cons_succ, List.set_cons_zero]
  refine wpAnyH_takeL (i := 0) (v := ?_) rfl (by kernel_rfl) (by kernel_rfl) (by kernel_rfl) (fun _ _ _ h => h) rfl ?_ hHeld ?_
  rotate_left
  · intro w hSw
    try dsimp only at hSw
    go_simp
    all_goals with_reducible rfl
  try simp only [Act.put, List.setIfInBounds_toArray, List.set_cons_zero, List.set_cons_succ]
  refine wpAnyH_takeL (i := 1) (v := ?_) rfl (by kernel_rfl) (by kernel_rfl) (by kernel_rfl) (fun _ _ _ h => h) rfl ?_ hHeld ?_
  rotate_left
  · intro w hSw
    try dsimp only at hSw
    go_simp
    all_goals with_reducible rfl
  try simp only [Act.put, List.setIfInBounds_toArray, List.set_cons_zero, List.set_cons_succ]
  refine wpAnyH_takeL (i := 3) (v := ?_) rfl (by kernel_rfl) (by kernel_rfl) (by kernel_rfl) (fun _ _ _ h => h) rfl ?_ hHeld ?_
  rotate_left
  · intro w hSw
    try dsimp only at hSw
    go_simp
    all_goals with_reducible rfl
  try simp only [Act.put, List.setIfInBounds_toArray, List.set_cons_zero, List.set_cons_succ]
  refine wpAnyH_takeL (i := 4) (v := ?_) rfl (by kernel_rfl) (by kernel_rfl) (by kernel_rfl) (fun _ _ _ h => h) rfl ?_ hHeld ?_
  rotate_left
  · intro w hSw
    try dsimp only at hSw
    go_simp
    all_goals with_reducible rfl
  try simp only [Act.put, List.setIfInBounds_toArray, List.set_cons_zero, List.set_cons_succ]
  refine wpAnyH_step (i := 2) (by kernel_rfl) rfl (fun KK hK => ?_)
  (go_simp; refine OF.out.mono ?_; rintro e w1 ⟨rfl, hw⟩; subst hw; go_wp2_with fail)
  refine hK.out _ _ ?_ (fun hHeld => ?_)
  · (first | exact ⟨cl, ct⟩ | exact ⟨cl5, ct5⟩ | exact ⟨cl8, ct8⟩ | exact ⟨(L5.out.bel (alloc_belQ _ _)).cell rfl, (T5.out.bel (alloc_belQ _ _)).cell rfl⟩)
  clear hK KK
  try simp only [Act.put, List.setIfInBounds_toArray, List.set_cons_zero, List.set_cons_succ]
  refine wpAnyH_step (i := 5) (by kernel_rfl) rfl (fun KK hK => ?_)
  (go_simp; refine RD.out.mono ?_; rintro e w5 ⟨rv, rfl, h1, h2, h3⟩; obtain ⟨ra, rc, rfl, hrr⟩ := h1; have L5 := Lib.hid ((H.out.l.bel DQ.out).upd h3 (fun e => (HD.out _ e).1 rfl)); have T5 := Lib.hid ((H.out.t.bel DQ.out).upd h3 (fun e => (HD.out _ e).2.1 rfl)); have cl5 := L5.out.cell (i := 0) rfl; have ct5 := T5.out.cell (i := 0) rfl; have O7 := Lib.hid (own_upd (own_upd (own_upd H.out.o (Upd.of_below (S := fun _ => False) DQ.out) (fun _ _ => id)) h3 (fun g hg e => by have := own_base H.out.o hg; have := (HD.out _ e).2.2; omega)) (Upd.of_below (S := fun _ => False) (alloc_belQ w5 (.cells #[.int .i64 off, .slice ra q rc, .bool false] 67))) (fun _ _ => id)); have HC := Lib.hid (seg_cells w5 off ra q rc); have S5 := Lib.hid h2; have R5 := Lib.hid hrr; have U5 := Lib.hid h3; clear h2 hrr h3; go_wp2_with fail)
  refine hK.out _ _ ?_ (fun hHeld => ?_)
  · (first | exact ⟨cl, ct⟩ | exact ⟨cl5, ct5⟩ | exact ⟨cl8, ct8⟩ | exact ⟨(L5.out.bel (alloc_belQ _ _)).cell rfl, (T5.out.bel (alloc_belQ _ _)).cell rfl⟩)
  clear hK KK
  try simp only [Act.put, List.setIfInBounds_toArray, List.set_cons_zero, List.set_cons_succ]
  refine wpAnyH_takeL (i := 6) (v := ?_) rfl (by kernel_rfl) (by kernel_rfl) (by kernel_rfl) (fun _ _ _ h => h) rfl ?_ hHeld ?_
  rotate_left
  · intro w hSw
    try dsimp only at hSw
    go_simp
    all_goals with_reducible rfl
  try simp only [Act.put, List.setIfInBounds_toArray, List.set_cons_zero, List.set_cons_succ]
  refine wpAnyH_step (i := 7) (by kernel_rfl) rfl (fun KK hK => ?_)
  (go_simp)
  refine hK.out _ _ ?_ (fun hHeld => ?_)
  · (first | exact ⟨cl, ct⟩ | exact ⟨cl5, ct5⟩ | exact ⟨cl8, ct8⟩ | exact ⟨(L5.out.bel (alloc_belQ _ _)).cell rfl, (T5.out.bel (alloc_belQ _ _)).cell rfl⟩)
  clear hK KK
  try simp only [Act.put, List.setIfInBounds_toArray, List.set_cons_zero, List.set_cons_succ]
  refine wpAnyH_step (i := 8) (by kernel_rfl) rfl (fun KK hK => ?_)
  (rw [if_pos (by rfl)]; refine wp_append_cells (.tmp 6) (.tmp 13) 106 rfl base 67 i1 _ 3 40 Tryz.underlying106 JI.out JZ0.out JZ1.out JZ2.out rfl (by decide) (.slice va ss.length vc) ss.length (flS ss) rfl O7.out (some ⟨w5.heap.size, 0, none⟩) 1 1 [.int .i64 off, .slice ra q rc, .bool false] rfl rfl HC.out (fun u hu => by simp only [List.mem_cons, List.not_mem_nil, or_false] at hu; rcases hu with rfl | rfl | rfl <;> rfl) ?c1 ?c2 ?c3 ?_; (case c1 => unfold maxLen; omega); (case c2 => omega); (case c3 => have := H.out.bs; have := U5.out.size; have := DQ.out.size; simp; omega); intro v8 w8 g1 g2 g3; have UG := Upd.of_grownV g2; have L8 := Lib.hid ((L5.out.bel (alloc_belQ w5 (.cells #[.int .i64 off, .slice ra q rc, .bool false] 67))).upd UG (fun e => by have := own_base H.out.o e; have := H.out.n1; omega)); have T8 := Lib.hid ((T5.out.bel (alloc_belQ w5 (.cells #[.int .i64 off, .slice ra q rc, .bool false] 67))).upd UG (fun e => by have := own_base H.out.o e; have := H.out.n2; omega)); have cl8 := L8.out.cell (i := 0) rfl; have ct8 := T8.out.cell (i := 0) rfl; have f8 := L8.out.free; have z8 := L8.out.lt; obtain ⟨a8, c8, rfl, -⟩ := own_shape g1; have G1 := Lib.hid g1; have G2 := Lib.hid UG; have G3 := Lib.hid g3; clear g1 g2 g3 UG)
  refine hK.out _ _ ?_ (fun hHeld => ?_)
  · (first | exact ⟨cl, ct⟩ | exact ⟨cl5, ct5⟩ | exact ⟨cl8, ct8⟩ | exact ⟨(L5.out.bel (alloc_belQ _ _)).cell rfl, (T5.out.bel (alloc_belQ _ _)).cell rfl⟩)
  clear hK KK
  try simp only [Act.put, List.setIfInBounds_toArray, List.set_cons_zero, List.set_cons_succ]
  refine wpAnyH_takeL (i := 9) (v := ?_) rfl (by kernel_rfl) (by kernel_rfl) (by kernel_rfl) (fun _ _ _ h => h) rfl ?_ hHeld ?_
  rotate_left
  · intro w hSw
    try dsimp only at hSw
    go_simp
    all_goals with_reducible rfl
  try simp only [Act.put, List.setIfInBounds_toArray, List.set_cons_zero, List.set_cons_succ]
  refine wpAnyH_done (by kernel_rfl) ?_ _
  rw [LastQ_normal]
  go_wp2_with fail
  go_end0
  have BA := alloc_belQ w5 (.cells #[.int .i64 off, .slice ra q rc, .bool false] 67)
  have us : Upd (fun j => j = lb) w8 (w8.setCell ⟨lb, 0, none⟩ (.slice a8 (ss.length + 1) c8)) := (Upd.refl _ w8).setCell _ _ (fun _ => rfl)
  have hz5 : w.heap.size ≤ w5.heap.size := Nat.le_trans DQ.out.size U5.out.size
  have hz8 := G2.out.size
  rw [show (w5.alloc (.cells #[.int .i64 off, .slice ra q rc, .bool false] 67)).heap.size = w5.heap.size + 1 by simp] at hz8
  have hvl : ∀ k, (Value.slice va ss.length vc).ownBlock = some k → base ≤ k ∧ k < w.heap.size := fun k hk => ⟨own_base H.out.o hk, by
    rcases H.out.o.2 with ⟨e, _⟩ | ⟨g, cap, cur, e, _, hg, _⟩
    · rw [e] at hk; cases hk
    · rw [e] at hk
      have : g = k := by simpa [Value.ownBlock] using hk
      subst this
      exact (Array.getElem?_eq_some_iff.1 hg).1⟩
  have hbs := H.out.bs
  have hn1 := H.out.n1
  refine ⟨rfl, _, ra, rc, ⟨L8.out.set 0 _, T8.out.setO _ (by have := H.out.n3; dsimp only; omega), ?_, ?_, hn1, H.out.n2, H.out.n3, by have := us.size; omega⟩, ?_, ?_, ?_⟩
  · rw [flS_append, List.length_append]
    have := own_upd G1.out us (fun g hg e => by have := own_base G1.out hg; omega)
    simpa [flS, sgV, hdq] using this
  · intro s hs
    rcases List.mem_append.1 hs with hs | hs
    · obtain ⟨d1, d2⟩ := H.out.d s hs
      have dl1 := fun k hk => d1.lt (k := k) hk
      refine ⟨((((d1.below DQ.out).upd U5.out (fun k hk e => by have := (dl1 k hk).1; have := (HD.out k e).2.2; omega)).below BA).upd G2.out (fun k hk e => d2 k e hk)).upd us (fun k hk e => by have := (dl1 k hk).1; omega), ?_⟩
      intro g hg e
      rcases G3.out with g3 | g3
      · rw [g3] at hg; exact d2 g hg e
      · rw [g3] at hg; injection hg with hg; have := (dl1 g e).2; simp at hg; omega
    · have e : s = ⟨off, ra, rc, dl⟩ := by simpa using hs
      subst e
      have r1 : Rw (Value.int .u8) 5 w5 w.heap.size (.slice ra dl.length rc) dl := ⟨ra, rc, rfl, R5.out⟩
      have dl1 := fun k hk => r1.lt (k := k) hk
      refine ⟨(((r1.below BA).upd G2.out (fun k hk e => by have := (dl1 k hk).1; have := (hvl k e).2; omega)).upd us (fun k hk e => by have := (dl1 k hk).1; omega)).low hbs, ?_⟩
      intro g hg e
      rcases G3.out with g3 | g3
      · rw [g3] at hg; have := (dl1 g e).1; have := (hvl g hg).2; omega
      · rw [g3] at hg; injection hg with hg; have := (dl1 g e).2; simp at hg; omega
  · exact ((S5.out.below BA).upd G2.out (fun k hk e => by have := (hvl k e).1; have := (HD.out k hk).2.2; omega)).upd us (fun k hk e => (HD.out k hk).1 e)
  · exact ((((Upd.of_below (S := fun k => stS sb mb k ∨ k = lb ∨ (Value.slice va ss.length vc).ownBlock = some k) DQ.out).then U5.out (fun _ _ h => .inl h)).then (Upd.of_below (S := fun _ => False) BA) (fun _ _ h => h.elim)).then G2.out (fun _ _ h => .inr (.inr h))).then us (fun _ _ h => .inr (.inl h))
  · intro g hg
    rcases G3.out with g3 | g3
    · exact .inl (by rw [← g3]; exact hg)
    · rw [g3] at hg; injection hg with hg; exact .inr (by simp at hg; omega)
end Go.Proofs.YtkaaoomliepijaaGreat
