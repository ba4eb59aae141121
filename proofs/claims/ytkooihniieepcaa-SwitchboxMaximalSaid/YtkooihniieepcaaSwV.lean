/-
  play: a row for each table is made, boxed, appended, in whatever order.
  play: the region that makes a row for each table, over all orders.
  play: the region of the tables, as it is used in the walk.
-/
import Derived.Test.YtkooihniieepcaaSwU
namespace Go.Proofs.Ytkooihniieepcaa
open Go.RowKit
set_option linter.unusedVariables false

theorem mk_zero (w : World) (n : Nat) (h : n ≤ 1000000) : (Instr.makeSlice 22 (.int .i64 n) (.int .i64 n)).run Try.prog w = .ok (.slice (some ⟨w.heap.size, 0, none⟩) n n) (w.alloc (.cells ((List.range n).map fun _ => Value.int .i64 0).toArray 3)) := by
  rw [make_ints w n h, fun_const (Value.int .i64) n 0]
theorem Try.infoIntRow : (Try.prog.info? 22).map (fun i => (i.zero, i.size, i.bytes)) = some (some (.slice none 0 0), 1, 24) := by kernel_rfl
theorem one_put (xs : Array Value) (v : Value) (h : xs.size = 1) : xs.setIfInBounds 0 v = #[v] := by
  match xs, h with
  | ⟨[y]⟩, _ => rfl
theorem build_one (w : World) (a : Option Addr) (n c : Nat) : (Instr.buildSlice 31 1 #[(0, .slice a n c)]).run Try.prog w = .ok (.slice (some ⟨w.heap.size, 0, none⟩) 1 1) (w.alloc (.cells #[.slice a n c] 22)) := by
  obtain ⟨i, hi, hz, hs, hb⟩ := info_parts Try.infoIntRow
  have e : (Value.slice a n c).cells = #[Value.slice a n c] := rfl
  simp [e, Instr.buildSlice, run_underlying Try.underlying31, sizeOf, typeInfo, zeroValue, hi, hz, hs, newRow, Instr.fill]
  rw [one_put _ _ (by simp)]
def nineB (j : Nat) : Bool := decide (48 ≤ j ∧ j < 63 ∧ 48 ≤ 48 + j % 6 ∧ j % 6 < 3)
def lsF (p : Nat → Nat) (i : Nat) : Bool := if i < 18 then (if i % 6 < 3 then true else decide (i % 6 - 3 < p (i / 6))) else false
def lsP (p : Nat → Nat) : Array Bool := ((List.range 21).map (lsF p)).toArray
def rdP (p : Nat → Nat) : List Nat := ((List.range 3).filter fun t => decide (p t < 2) || (decide (p t = 2) && (decide (t = 0) || decide (p (t - 1) = 3)))).map fun t => 3 + 6 * t + p t
def triP (a b c : Nat) (t : Nat) : Nat := if t = 0 then a else if t = 1 then b else c
/-- Which may come up in each of the states. -/
def chkP (ops : Array Oper) : Bool := (List.range 4).all fun a => (List.range 4).all fun b => (List.range 4).all fun c =>
  decide (a = 3 ∧ b = 3 ∧ c = 3) || decide (b = 3 ∧ a ≠ 3) || decide (c = 3 ∧ b ≠ 3) || (Region.ready .any ops (lsP (triP a b c)) == rdP (triP a b c))
theorem lsP_congr {p q : Nat → Nat} (h : ∀ t < 3, p t = q t) : lsP p = lsP q := by
  unfold lsP
  congr 1
  apply List.map_congr_left
  intro i hi
  unfold lsF
  by_cases h1 : i < 18
  · rw [if_pos h1, if_pos h1, h (i / 6) (by omega)]
  · rw [if_neg h1, if_neg h1]
theorem rdP_congr {p q : Nat → Nat} (h : ∀ t < 3, p t = q t) : rdP p = rdP q := by
  have e : List.range 3 = [0, 1, 2] := rfl
  unfold rdP
  rw [e]
  simp only [List.filter_cons, List.filter_nil, h 0 (by omega), h 1 (by omega), h 2 (by omega)]
  have h0 := h 0 (by omega)
  have h1 := h 1 (by omega)
  simp only [h0, h1, Nat.sub_self, show 1 - 1 = 0 from rfl, show 2 - 1 = 1 from rfl]
  split <;> split <;> split <;> simp [h 0 (by omega), h 1 (by omega), h 2 (by omega)]
theorem lsP_put {p : Nat → Nat} {t : Nat} (ht : t < 3) (hp : p t < 3) : (lsP p).setIfInBounds (3 + 6 * t + p t) true = lsP (Bar.upd p t (p t + 1)) := by
  unfold lsP
  rw [List.setIfInBounds_toArray]
  congr 1
  apply List.ext_getElem?
  intro i
  rw [List.getElem?_set]
  by_cases hi : i < 21
  · rw [List.getElem?_map, List.getElem?_map, List.getElem?_range hi]
    simp only [Option.map_some, List.length_map, List.length_range]
    by_cases e : 3 + 6 * t + p t = i
    · rw [if_pos e, if_pos (by omega)]
      unfold lsF
      have h1 : i / 6 = t := by omega
      rw [if_pos (by omega), if_neg (by omega), h1, Bar.upd_same, decide_eq_true (by omega)]
    · rw [if_neg e]
      unfold lsF
      by_cases h18 : i < 18
      · rw [if_pos h18, if_pos h18]
        by_cases h3 : i % 6 < 3
        · rw [if_pos h3, if_pos h3]
        · rw [if_neg h3, if_neg h3]
          by_cases h4 : i / 6 = t
          · rw [h4, Bar.upd_same]
            congr 1
            rw [decide_eq_decide]
            omega
          · rw [Bar.upd_ne _ _ h4]
      · rw [if_neg h18, if_neg h18]
  · rw [if_neg (by omega), List.getElem?_eq_none (by simpa using hi), List.getElem?_eq_none (by simpa using hi)]
theorem chkP_use {ops : Array Oper} (h : chkP ops = true) {p : Nat → Nat} (h0 : p 0 ≤ 3) (h1 : p 1 ≤ 3) (h2 : p 2 ≤ 3) (hne : ¬ (p 0 = 3 ∧ p 1 = 3 ∧ p 2 = 3)) (h10 : p 1 = 3 → p 0 = 3) (h21 : p 2 = 3 → p 1 = 3) : Region.ready .any ops (lsP p) = rdP p := by
  have e : ∀ t < 3, p t = triP (p 0) (p 1) (p 2) t := fun t ht => by
    unfold triP
    rcases (show t = 0 ∨ t = 1 ∨ t = 2 by omega) with rfl | rfl | rfl <;> rfl
  rw [lsP_congr e, rdP_congr e]
  unfold chkP at h
  have h3 := List.all_eq_true.1 (List.all_eq_true.1 (List.all_eq_true.1 h (p 0) (List.mem_range.2 (by omega))) (p 1) (List.mem_range.2 (by omega))) (p 2) (List.mem_range.2 (by omega))
  simp only [Bool.or_eq_true, decide_eq_true_eq, beq_iff_eq] at h3
  rcases h3 with ((h3 | h3) | h3) | h3
  · exact absurd h3 hne
  · exact absurd (h10 h3.1) h3.2
  · exact absurd (h21 h3.1) h3.2
  · exact h3
/-- How far a table is. -/
def tbSt (K p0 : Nat) (v0 : Value) (t : Nat) (T : Tbs) (a : Act) : Nat → Prop
  | 0 => T.mw t = none ∧ T.bx t = none ∧ T.n t = p0 ∧ T.v t = v0
  | 1 => T.bx t = none ∧ T.n t = p0 ∧ T.v t = v0 ∧ ∃ m, T.mw t = some m ∧ a.tmps.getD (48 + 6 * t) undef = .slice (some ⟨m, 0, none⟩) K K
  | 2 => T.n t = p0 ∧ T.v t = v0 ∧ ∃ m k, T.mw t = some m ∧ T.bx t = some (k, m) ∧ a.tmps.getD (49 + 6 * t) undef = .slice (some ⟨k, 0, none⟩) 1 1
  | 3 => T.mw t = none ∧ T.bx t = none ∧ T.n t = p0 + 1 ∧ a.tmps.getD (50 + 6 * t) undef = T.v t
  | _ => False
structure RgAt (W : World) (base P K : Nat) (L : Loc) (M : Md) (B p0 : Nat) (v0 : Nat → Value) (a0 : Act) (p : Nat → Nat) (a : Act) (w : World) : Prop where
  df : a.defers = a0.defers
  sz : a.tmps.size = a0.tmps.size
  fr : ∀ j, nineB j = false → a.tmps.getD j undef = a0.tmps.getD j undef
  me : ∃ T : Tbs, CliAt w base P K L M B (plC K T) ∧ (∀ t < 3, tbSt K p0 (v0 t) t T a (p t)) ∧ ∀ t i c, T.x t i c = 0
  bl : Below W.heap.size W w
  bs : B ≤ w.heap.size
theorem put_getD (a : Act) (d j : Nat) (v : Value) : (a.put (some d) v).tmps.getD j undef = if j = d ∧ d < a.tmps.size then v else a.tmps.getD j undef := by
  show (a.tmps.setIfInBounds d v).getD j undef = _
  rw [Array.getD_eq_getD_getElem?, Array.getD_eq_getD_getElem?, Array.getElem?_setIfInBounds]
  by_cases e : j = d
  · subst e
    by_cases h : j < a.tmps.size
    · rw [if_pos rfl, if_pos h, if_pos ⟨rfl, h⟩]; rfl
    · rw [if_pos rfl, if_neg h, if_neg (fun x => h x.2)]
      simp [Array.getElem?_eq_none (Nat.le_of_not_lt h)]
  · rw [if_neg (fun x => e x.symm), if_neg (fun x => e x.1)]
/-- Another table is as far as it was. -/
theorem tbSt_far {K p0 t s d : Nat} {v0 : Value} {T T' : Tbs} {a a' : Act} (h : tbSt K p0 v0 s T a d) (h1 : T'.mw s = T.mw s) (h2 : T'.bx s = T.bx s) (h3 : T'.n s = T.n s) (h4 : T'.v s = T.v s) (hz : ∀ j, 48 + 6 * s ≤ j → j < 51 + 6 * s → a'.tmps.getD j undef = a.tmps.getD j undef) : tbSt K p0 v0 s T' a' d := by
  match d, h with
  | 0, h => exact ⟨h1.trans h.1, h2.trans h.2.1, h3.trans h.2.2.1, h4.trans h.2.2.2⟩
  | 1, h =>
    obtain ⟨g1, g2, g3, m, g4, g5⟩ := h
    exact ⟨h2.trans g1, h3.trans g2, h4.trans g3, m, h1.trans g4, (hz _ (Nat.le_refl _) (by omega)).trans g5⟩
  | 2, h =>
    obtain ⟨g2, g3, m, k, g4, g5, g6⟩ := h
    exact ⟨h3.trans g2, h4.trans g3, m, k, h1.trans g4, h2.trans g5, (hz _ (by omega) (by omega)).trans g6⟩
  | 3, h =>
    obtain ⟨g1, g2, g3, g4⟩ := h
    exact ⟨h1.trans g1, h2.trans g2, h3.trans g3, by rw [h4]; exact (hz _ (by omega) (by omega)).trans g4⟩
theorem wanted_free {o : Oper} (hg : o.guard = none) (f : Nat → Option Bool) : Region.wanted o f = true := by simp [Region.wanted, hg]
section
variable {Q : Exit → Act → World → Prop} {W : World} {base P K B p0 : Nat} {L : Loc} {M : Md} {v0 : Nat → Value} {a0 : Act}
theorem rg_frame {p q : Nat → Nat} {a : Act} {w w' : World} (h : RgAt W base P K L M B p0 v0 a0 p a w) {d : Nat} (hd : nineB d = true) (v : Value) (bl : Below W.heap.size W w') (bs : B ≤ w'.heap.size) (me : ∃ T : Tbs, CliAt w' base P K L M B (plC K T) ∧ (∀ t < 3, tbSt K p0 (v0 t) t T (a.put (some d) v) (q t)) ∧ ∀ t i c, T.x t i c = 0) : RgAt W base P K L M B p0 v0 a0 q (a.put (some d) v) w' := by
  refine ⟨h.df, ?_, fun j hj => ?_, me, bl, bs⟩
  · show (a.tmps.setIfInBounds d v).size = _
    rw [Array.size_setIfInBounds]
    exact h.sz
  · rw [put_getD, if_neg (fun x => by rw [x.1, hd] at hj; cases hj)]
    exact h.fr j hj
theorem nine_at {t r : Nat} (ht : t < 3) (hr : r < 3) : nineB (48 + r + 6 * t) = true := by
  unfold nineB
  rw [decide_eq_true_eq]
  omega
theorem nine_not {t r : Nat} (ht : t < 3) (hr : r < 3) : nineB (45 + r + 6 * t) = false := by
  unfold nineB
  rw [decide_eq_false_iff_not]
  omega
end
end Go.Proofs.Ytkooihniieepcaa
namespace Go.Proofs.Ytkooihniieepcaa
open Go.RowKit
set_option linter.unusedVariables false

theorem op_value {o : Oper} {a : Act} {w w' : World} {K : Act → World → Prop} {Q : Exit → Act → World → Prop} {v : Value} (h : (execOp a.eval o).run Try.prog w = .ok (.value v) w') (hk : K (a.put o.dst v) w') : Oper.wp Try.prog o a w K Q := by
  unfold Oper.wp
  rw [h]
  exact hk
theorem run_makeS {o : Oper} {a : Act} {w w' : World} {t : TypeId} {x y : Operand} {v : Value} (ho : o.op = .makeSlice t x y) (h : (Instr.makeSlice t (a.eval x) (a.eval y)).run Try.prog w = .ok v w') : (execOp a.eval o).run Try.prog w = .ok (.value v) w' := by
  unfold execOp
  simp only [ho, Sem.run_bind, Sem.run_pure, Result.andThen_ok, h]
theorem run_buildS {o : Oper} {a : Act} {w w' : World} {t : TypeId} {x : Operand} {v : Value} (ho : o.op = .buildSlice t 1 #[(0, x)]) (h : (Instr.buildSlice t 1 #[(0, a.eval x)]).run Try.prog w = .ok v w') : (execOp a.eval o).run Try.prog w = .ok (.value v) w' := by
  unfold execOp
  simp only [ho, Sem.run_bind, Sem.run_pure, Result.andThen_ok, List.map_toArray, List.map_cons, List.map_nil, h]
/-- The operations of the three chains. -/
structure Chains (ops : Array Oper) (O : Nat → Oper) : Prop where
  at_ : ∀ i < 18, ops[i]? = some (O i)
  mc : ∀ t < 3, (O (3 + 6 * t)).op = .makeSlice 22 (.tmp (47 + 6 * t)) (.tmp (47 + 6 * t)) ∧ (O (3 + 6 * t)).dst = some (48 + 6 * t) ∧ (O (3 + 6 * t)).guard = none
  bu : ∀ t < 3, (O (4 + 6 * t)).op = .buildSlice 31 1 #[(0, .tmp (48 + 6 * t))] ∧ (O (4 + 6 * t)).dst = some (49 + 6 * t) ∧ (O (4 + 6 * t)).guard = none
  ap : ∀ t < 3, (O (5 + 6 * t)).op = .call { callee := .builtin .append, args := #[.tmp (45 + 6 * t), .tmp (49 + 6 * t)], argTypes := #[31, 31] } ∧ (O (5 + 6 * t)).dst = some (50 + 6 * t) ∧ (O (5 + 6 * t)).guard = none
  chk : chkP ops = true
section
variable {Q : Exit → Act → World → Prop} {W : World} {base P K B p0 : Nat} {L : Loc} {M : Md} {v0 : Nat → Value} {a0 : Act} {ops : Array Oper} {O : Nat → Oper}
theorem tb_x0 {T : Tbs} {t m : Nat} {v : Value} (h : ∀ t i c, T.x t i c = 0) : ∀ t' i c, (tbPush T t m v).x t' i c = 0 := fun t' i c => by
  show (if t' = t ∧ i = T.n t then (0 : Int) else T.x t' i c) = 0
  rw [h]
  split <;> rfl
set_option maxHeartbeats 1000000 in
theorem rg_run (hC : Chains ops O) (h0 : ∀ t < 3, a0.tmps.getD (45 + 6 * t) undef = v0 t) (h1 : ∀ t < 3, a0.tmps.getD (47 + 6 * t) undef = .int .i64 K) (hz : 63 ≤ a0.tmps.size) (hK : K ≤ 8) (hp0 : p0 ≤ 8) (hWB : W.heap.size ≤ B)
    (hend : ∀ a w, RgAt W base P K L M B p0 v0 a0 (fun _ => 3) a w → wpAny Try.prog .any ops Q 3 (lsP fun _ => 3) a w) :
    ∀ (m : Nat) (p : Nat → Nat) (a : Act) (w : World), p 0 + p 1 + p 2 + m = 9 → (∀ t < 3, p t ≤ 3) → (p 1 = 3 → p 0 = 3) → (p 2 = 3 → p 1 = 3) → RgAt W base P K L M B p0 v0 a0 p a w → wpAny Try.prog .any ops Q (m + 3) (lsP p) a w
  | 0, p, a, w, hm, hp, h10, h21, hI => by
    have q0 := hp 0 (by omega); have q1 := hp 1 (by omega); have q2 := hp 2 (by omega)
    have e : ∀ t < 3, p t = 3 := fun t ht => by
      rcases (show t = 0 ∨ t = 1 ∨ t = 2 by omega) with rfl | rfl | rfl <;> omega
    rw [lsP_congr e]
    refine hend a w ⟨hI.df, hI.sz, hI.fr, ?_, hI.bl, hI.bs⟩
    obtain ⟨T, hT, hs, hx⟩ := hI.me
    exact ⟨T, hT, fun t ht => by have := hs t ht; rw [e t ht] at this; exact this, hx⟩
  | m + 1, p, a, w, hm, hp, h10, h21, hI => by
    have q0 := hp 0 (by omega); have q1 := hp 1 (by omega); have q2 := hp 2 (by omega)
    have hr := chkP_use hC.chk q0 q1 q2 (by omega) h10 h21
    have hne : rdP p ≠ [] := by
      intro e
      have hmem : ∀ t < 3, (p t < 2 ∨ (p t = 2 ∧ (t = 0 ∨ p (t - 1) = 3))) → 3 + 6 * t + p t ∈ rdP p := fun t ht hc => by
        unfold rdP
        refine List.mem_map.2 ⟨t, List.mem_filter.2 ⟨List.mem_range.2 ht, ?_⟩, rfl⟩
        simp only [Bool.or_eq_true, Bool.and_eq_true, decide_eq_true_eq]
        exact hc
      have h : ∃ t, t < 3 ∧ (p t < 2 ∨ (p t = 2 ∧ (t = 0 ∨ p (t - 1) = 3))) := by
        by_cases c0 : p 0 < 3
        · exact ⟨0, by omega, by omega⟩
        · by_cases c1 : p 1 < 3
          · exact ⟨1, by omega, by have : p (1 - 1) = p 0 := rfl; omega⟩
          · exact ⟨2, by omega, by have : p (2 - 1) = p 1 := rfl; omega⟩
      obtain ⟨t, ht, hc⟩ := h
      have := hmem t ht hc
      rw [e] at this
      cases this
    refine wpAny_all hr hne fun i hi => ?_
    obtain ⟨t, hmem, rfl⟩ := List.mem_map.1 hi
    obtain ⟨ht, hc⟩ := List.mem_filter.1 hmem
    have ht := List.mem_range.1 ht
    simp only [Bool.or_eq_true, Bool.and_eq_true, decide_eq_true_eq] at hc
    have hlt : p t < 3 := by omega
    rw [lsP_put ht hlt]
    obtain ⟨p', hpe⟩ : ∃ p', p' = Bar.upd p t (p t + 1) := ⟨_, rfl⟩
    rw [← hpe]
    have ih := rg_run hC h0 h1 hz hK hp0 hWB hend m p'
    have upds : ∀ s, p' s = if s = t then p t + 1 else p s := fun s => by rw [hpe]; rfl
    clear hpe
    have hsum : p' 0 + p' 1 + p' 2 + m = 9 := by
      simp only [upds]
      rcases (show t = 0 ∨ t = 1 ∨ t = 2 by omega) with rfl | rfl | rfl <;> simp <;> omega
    have hle : ∀ s < 3, p' s ≤ 3 := fun s hs => by
      have := hp s hs
      simp only [upds]
      split <;> omega
    have g10 : p' 1 = 3 → p' 0 = 3 := by
      simp only [upds]
      rcases (show t = 0 ∨ t = 1 ∨ t = 2 by omega) with rfl | rfl | rfl
      · simp; omega
      · have : p (1 - 1) = p 0 := rfl
        simp
        omega
      · simp; omega
    have g21 : p' 2 = 3 → p' 1 = 3 := by
      simp only [upds]
      rcases (show t = 0 ∨ t = 1 ∨ t = 2 by omega) with rfl | rfl | rfl
      · simp; omega
      · simp; omega
      · have : p (2 - 1) = p 1 := rfl
        simp
        omega
    have IH := fun a' w' => ih a' w' hsum hle g10 g21
    clear ih hsum hle g10 g21
    obtain ⟨T, hT, hs, hx⟩ := hI.me
    have hst := hs t ht
    have bs := hI.bs
    have hsz : ∀ d, d < 63 → d < a.tmps.size := fun d hd => by rw [hI.sz]; omega
    have hother : ∀ s < 3, s ≠ t → ∀ d, 48 + 6 * t ≤ d → d < 51 + 6 * t → ∀ v (T' : Tbs), T'.mw s = T.mw s → T'.bx s = T.bx s → T'.n s = T.n s → T'.v s = T.v s → tbSt K p0 (v0 s) s T' (a.put (some d) v) (p' s) := fun s hs3 hne d hd1 hd2 v T' e1 e2 e3 e4 => by
      rw [upds, if_neg hne]
      exact tbSt_far (t := t) (hs s hs3) e1 e2 e3 e4 fun j hj1 hj2 => by rw [put_getD, if_neg (by omega)]
    rcases (show p t = 0 ∨ p t = 1 ∨ p t = 2 by omega) with e | e | e
    · rw [e] at hst
      obtain ⟨s1, s2, s3, s4⟩ := hst
      obtain ⟨o1, o2, o3⟩ := hC.mc t ht
      rw [e, Nat.add_zero]
      refine wpOp_step (hC.at_ _ (by omega)) fun K' hK' => ?_
      rw [if_pos (wanted_free o3 _)]
      have ev : a.eval (.tmp (47 + 6 * t)) = .int .i64 K := by
        show a.tmps.getD (47 + 6 * t) undef = _
        rw [hI.fr _ (by have := nine_not (r := 2) ht (by omega); exact this)]
        exact h1 t ht
      refine op_value (run_makeS o1 (by rw [ev]; exact mk_zero w K (by omega))) (hK' _ _ (IH _ _ ?_))
      rw [o2]
      have hd : nineB (48 + 6 * t) = true := nine_at (r := 0) ht (by omega)
      refine rg_frame hI hd _ (hI.bl.alloc hI.bl.size _) (by simp; omega) ⟨tbMake T t w.heap.size, tb_make hT s1 bs, fun s hs3 => ?_, hx⟩
      by_cases es : s = t
      · subst es
        rw [upds, if_pos rfl, e]
        exact ⟨s2, s3, s4, w.heap.size, Bar.upd_same _ _ _, by rw [put_getD, if_pos ⟨rfl, hsz _ (by omega)⟩]⟩
      · exact hother s hs3 es _ (Nat.le_refl _) (by omega) _ _ (Bar.upd_ne _ _ es) rfl rfl rfl
    · rw [e] at hst
      obtain ⟨s2, s3, s4, mb, s5, s6⟩ := hst
      obtain ⟨o1, o2, o3⟩ := hC.bu t ht
      rw [e, show 3 + 6 * t + 1 = 4 + 6 * t by omega]
      refine wpOp_step (hC.at_ _ (by omega)) fun K' hK' => ?_
      rw [if_pos (wanted_free o3 _)]
      refine op_value (run_buildS o1 (by rw [show a.eval (.tmp (48 + 6 * t)) = .slice (some ⟨mb, 0, none⟩) K K from s6]; exact build_one w _ K K)) (hK' _ _ (IH _ _ ?_))
      rw [o2]
      have hd : nineB (49 + 6 * t) = true := nine_at (r := 1) ht (by omega)
      refine rg_frame hI hd _ (hI.bl.alloc hI.bl.size _) (by simp; omega) ⟨tbBox T t w.heap.size mb, tb_box hT s2 bs, fun s hs3 => ?_, hx⟩
      by_cases es : s = t
      · subst es
        rw [upds, if_pos rfl, e]
        exact ⟨s3, s4, mb, w.heap.size, s5, Bar.upd_same _ _ _, by rw [put_getD, if_pos ⟨rfl, hsz _ (by omega)⟩]⟩
      · exact hother s hs3 es _ (by omega) (by omega) _ _ rfl (Bar.upd_ne _ _ es) rfl rfl
    · rw [e] at hst
      obtain ⟨s3, s4, mb, kb, s5, s6, s7⟩ := hst
      obtain ⟨o1, o2, o3⟩ := hC.ap t ht
      rw [e, show 3 + 6 * t + 2 = 5 + 6 * t by omega]
      refine wpOp_step (hC.at_ _ (by omega)) fun K' hK' => ?_
      rw [if_pos (wanted_free o3 _)]
      have ev : a.eval (.tmp (45 + 6 * t)) = T.v t := by
        show a.tmps.getD (45 + 6 * t) undef = _
        rw [hI.fr _ (by have := nine_not (r := 0) ht (by omega); exact this), h0 t ht, s4]
      have ev2 : a.eval (.tmp (49 + 6 * t)) = .slice (some ⟨kb, 0, none⟩) 1 1 := s7
      obtain ⟨i1, hi1, hz0, hz1, hz2⟩ := info_parts Try.infoIntRow
      have hrow := tb_row hT ht
      have hbx : Blk w kb 22 [.slice (some ⟨mb, 0, none⟩) K K] := hT.st.blk (r := .bx t) (by show (T.bx t).map _ = _; rw [s6]; rfl)
      refine wp_append_cells (.tmp (45 + 6 * t)) (.tmp (49 + 6 * t)) 31 o1 B 22 i1 _ 1 24 Try.underlying31 hi1 hz0 hz1 hz2 rfl (by decide) (T.v t) (T.n t) _ ev hrow (some ⟨kb, 0, none⟩) 1 1 [Value.slice (some ⟨mb, 0, none⟩) K K] ev2 rfl
        (fun j u hj => ⟨rfl, by rw [adr_mk, Nat.zero_add]; exact hbx.cell hj⟩) (fun u hu => by rw [List.mem_singleton.1 hu]; rfl) (by unfold maxLen; omega) (by omega) bs ?_
      intro v' w' g1 g2 g3
      refine hK' _ _ (IH _ _ ?_)
      rw [o2]
      have hd : nineB (50 + 6 * t) = true := nine_at (r := 2) ht (by omega)
      have bl' : Below W.heap.size W w' := by
        refine Upd.below hI.bl (Upd.of_grownV g2) hI.bl.size fun j hj => ?_
        exact Nat.le_trans hWB (own_lt hrow hj).2
      refine rg_frame hI hd _ bl' (Nat.le_trans bs (Upd.of_grownV g2).size) ⟨tbPush T t mb v', tb_push hT ht s5 g1 g2 g3, fun s hs3 => ?_, tb_x0 hx⟩
      by_cases es : s = t
      · subst es
        rw [upds, if_pos rfl, e]
        refine ⟨Bar.upd_same _ _ _, Bar.upd_same _ _ _, ?_, ?_⟩
        · show Bar.upd T.n s (T.n s + 1) s = _
          rw [Bar.upd_same, s3]
        · rw [put_getD, if_pos ⟨rfl, hsz _ (by omega)⟩]
          show v' = Bar.upd T.v s v' s
          rw [Bar.upd_same]
      · exact hother s hs3 es _ (by omega) (by omega) _ _ (Bar.upd_ne _ _ es) (Bar.upd_ne _ _ es) (Bar.upd_ne _ _ es) (Bar.upd_ne _ _ es)
end
end Go.Proofs.Ytkooihniieepcaa
namespace Go.Proofs.Ytkooihniieepcaa
open Go.RowKit
set_option linter.unusedVariables false

theorem wpAny_takeL {P : Program} {Q : Exit → Act → World → Prop} {md : Region.Mode} {l : List Oper} {i : Nat} {oi : Oper} {v : Value} {fuel : Nat} {listed : Array Bool} {a : Act} {w : World} (hi : l[i]? = some oi)
    (hs : Region.noSelect l.toArray = true) (hf : Region.free md l.toArray listed i = true) (hr : (Region.ready md l.toArray listed).contains i = true)
    (hQ : ∀ c a w, Q (.panic c) (a.put oi.dst v) w → Q (.panic c) a w) (hg : oi.guard = none) (hy : ∀ w, (execOp a.eval oi).run P w = .ok (.value v) w)
    (h : wpAny P md l.toArray Q fuel (listed.setIfInBounds i true) (a.put oi.dst v) w) : wpAny P md l.toArray Q (fuel + 1) listed a w :=
  wpAny_take (by simpa using hi) hs hf hr hQ (.inl ⟨by simp [Region.wanted, hg], hy⟩) h
theorem wpAny_ls {P : Program} {Q : Exit → Act → World → Prop} {md : Region.Mode} {ops : Array Oper} {f : Nat} {l l' : Array Bool} {a : Act} {w : World} (e : l = l') (h : wpAny P md ops Q f l' a w) : wpAny P md ops Q f l a w := by rw [e]; exact h
theorem wp_region_anyL {P : Program} {Q : Exit → Act → World → Prop} {l : List Oper} {id : Nat} {a : Act} {w : World} (m : Nat) (hm : P.follows .mixedOrders = true) (hz : l.toArray.size = m) (h : wpAny P .any l.toArray Q m (Array.replicate m false) a w.drew) : (Code.region id l.toArray true).wp P Q a w := by
  refine wp_region_any hm ?_
  rw [hz]
  exact h
/-- The frame behind the chains. -/
def putsL (a : Act) (x : Nat → Value) : Act := ((((((((a.put (some 48) (x 48)).put (some 49) (x 49)).put (some 50) (x 50)).put (some 54) (x 54)).put (some 55) (x 55)).put (some 56) (x 56)).put (some 60) (x 60)).put (some 61) (x 61)).put (some 62) (x 62)
theorem act_ext {a b : Act} (h1 : a.defers = b.defers) (h2 : a.tmps.size = b.tmps.size) (h3 : ∀ j, a.tmps.getD j undef = b.tmps.getD j undef) : a = b := by
  obtain ⟨t, d⟩ := a
  obtain ⟨t', d'⟩ := b
  have e : t = t' := by
    apply Array.ext h2
    intro j g1 g2
    have h := h3 j
    have g2 : j < t'.size := g2
    have g1 : j < t.size := g1
    have e1 : t.getD j undef = t[j] := by simp [g1]
    have e2 : t'.getD j undef = t'[j] := by simp [g2]
    exact e1.symm.trans (h.trans e2)
  subst e
  have h1 : d = d' := h1
  subst h1
  rfl
theorem putsL_size (a : Act) (x : Nat → Value) : (putsL a x).tmps.size = a.tmps.size := by
  simp [putsL, Act.put]
theorem put_df (a : Act) (d : Nat) (v : Value) : (a.put (some d) v).defers = a.defers := rfl
theorem putsL_df (a : Act) (x : Nat → Value) : (putsL a x).defers = a.defers := by
  unfold putsL
  simp only [put_df]
theorem putsL_getD (a : Act) (x : Nat → Value) (hz : 63 ≤ a.tmps.size) (j : Nat) : (putsL a x).tmps.getD j undef = if nineB j = true then x j else a.tmps.getD j undef := by
  have hs : ∀ (b : Act) d v, (b.put (some d) v).tmps.size = b.tmps.size := fun b d v => by simp [Act.put]
  unfold putsL
  simp only [put_getD, hs]
  by_cases h : nineB j = true
  · rw [if_pos h]
    unfold nineB at h
    rw [decide_eq_true_eq] at h
    have : j = 48 ∨ j = 49 ∨ j = 50 ∨ j = 54 ∨ j = 55 ∨ j = 56 ∨ j = 60 ∨ j = 61 ∨ j = 62 := by omega
    rcases this with rfl | rfl | rfl | rfl | rfl | rfl | rfl | rfl | rfl <;> simp <;> omega
  · rw [if_neg h]
    unfold nineB at h
    rw [decide_eq_true_eq] at h
    have g : ∀ d, d = 48 ∨ d = 49 ∨ d = 50 ∨ d = 54 ∨ d = 55 ∨ d = 56 ∨ d = 60 ∨ d = 61 ∨ d = 62 → ¬ (j = d ∧ d < a.tmps.size) := fun d hd x => by omega
    rw [if_neg (g 62 (by omega)), if_neg (g 61 (by omega)), if_neg (g 60 (by omega)), if_neg (g 56 (by omega)), if_neg (g 55 (by omega)), if_neg (g 54 (by omega)), if_neg (g 50 (by omega)), if_neg (g 49 (by omega)), if_neg (g 48 (by omega))]
/-- The chains in the list of the region's operations. -/
structure ChL (l : List Oper) : Prop where
  len : l.length = 21
  mc : ∀ t < 3, (l.getD (3 + 6 * t) default).op = .makeSlice 22 (.tmp (47 + 6 * t)) (.tmp (47 + 6 * t)) ∧ (l.getD (3 + 6 * t) default).dst = some (48 + 6 * t) ∧ (l.getD (3 + 6 * t) default).guard = none
  bu : ∀ t < 3, (l.getD (4 + 6 * t) default).op = .buildSlice 31 1 #[(0, .tmp (48 + 6 * t))] ∧ (l.getD (4 + 6 * t) default).dst = some (49 + 6 * t) ∧ (l.getD (4 + 6 * t) default).guard = none
  ap : ∀ t < 3, (l.getD (5 + 6 * t) default).op = .call { callee := .builtin .append, args := #[.tmp (45 + 6 * t), .tmp (49 + 6 * t)], argTypes := #[31, 31] } ∧ (l.getD (5 + 6 * t) default).dst = some (50 + 6 * t) ∧ (l.getD (5 + 6 * t) default).guard = none
  chk : chkP l.toArray = true
theorem ChL.chains {l : List Oper} (h : ChL l) : Chains l.toArray (fun i => l.getD i default) :=
  ⟨fun i hi => by
    have : i < l.length := by rw [h.len]; omega
    simp [this], h.mc, h.bu, h.ap, h.chk⟩
section
variable {Q : Exit → Act → World → Prop} {W : World} {base P K B p0 : Nat} {L : Loc} {M : Md} {T : Tbs} {a0 : Act} {l : List Oper} {w : World}
theorem rg_go (hC : ChL l) (h0 : ∀ t < 3, a0.tmps.getD (45 + 6 * t) undef = T.v t) (h1 : ∀ t < 3, a0.tmps.getD (47 + 6 * t) undef = .int .i64 K) (hz : 63 ≤ a0.tmps.size) (hK : K ≤ 8) (hp0 : p0 ≤ 8) (hWB : W.heap.size ≤ B)
    (hT : CliAt w base P K L M B (plC K T)) (hn : ∀ t < 3, T.n t = p0 ∧ T.mw t = none ∧ T.bx t = none) (hx : ∀ t i c, T.x t i c = 0) (bl : Below W.heap.size W w) (bs : B ≤ w.heap.size)
    (hend : ∀ x w' T', CliAt w' base P K L M B (plC K T') → (∀ t < 3, T'.n t = p0 + 1 ∧ T'.mw t = none ∧ T'.bx t = none) → (∀ t i c, T'.x t i c = 0) → Below W.heap.size W w' → (∀ t < 3, x (50 + 6 * t) = T'.v t) → wpAny Try.prog .any l.toArray Q 3 (lsP fun _ => 3) (putsL a0 x) w') :
    wpAny Try.prog .any l.toArray Q 12 (lsP fun _ => 0) a0 w := by
  refine rg_run (v0 := T.v) hC.chains h0 h1 hz hK hp0 hWB (fun a w' hR => ?_) 9 (fun _ => 0) a0 w rfl (fun _ _ => Nat.zero_le _) (fun h => by cases h) (fun h => by cases h) ⟨rfl, rfl, fun _ _ => rfl, ⟨T, hT, fun t ht => ?_, hx⟩, bl, bs⟩
  · obtain ⟨T', hT', hs, hx'⟩ := hR.me
    obtain ⟨x, hx1, hx2⟩ : ∃ x : Nat → Value, (∀ j, x j = a.tmps.getD j undef) ∧ a = putsL a0 x := by
      obtain ⟨x, hxx⟩ : ∃ x : Nat → Value, ∀ j, x j = a.tmps.getD j undef := ⟨_, fun _ => rfl⟩
      refine ⟨x, hxx, act_ext (hR.df.trans (putsL_df a0 x).symm) (hR.sz.trans (putsL_size a0 x).symm) fun j => ?_⟩
      rw [putsL_getD a0 x hz]
      by_cases h : nineB j = true
      · rw [if_pos h, hxx]
      · rw [if_neg h]
        exact hR.fr j (by simpa using h)
    have h3 := hend x w' T' hT' (fun t ht => by have := hs t ht; exact ⟨this.2.2.1, this.1, this.2.1⟩) hx' hR.bl (fun t ht => (hx1 _).trans (hs t ht).2.2.2)
    rw [← hx2] at h3
    exact h3
  · obtain ⟨g1, g2, g3⟩ := hn t ht
    exact ⟨g2, g3, g1, rfl⟩
end
end Go.Proofs.Ytkooihniieepcaa
