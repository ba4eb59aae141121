/-
  switchbox: copied, has, Limit, Raise.
-/
import Derived.Test.YtkooihniieepcaaSwBox
import Derived.Deep.RegionLaw
namespace Go.Proofs.Ytkooihniieepcaa
open Go.RowKit
set_option linter.unusedVariables false

set_option maxHeartbeats 2000000 in
theorem copied_any (f : Fr) (w : World) : Calls Try.prog 35 #[frV f] w fun e w' => e = .returned (frV f) ∧ Below w.heap.size w w' := by
  unfold frV
  go_enter Try.func35, Try.ntmps35
  go_wp2
  exact bodyPost_ret (v := .agg #[.int .i64 f.id, .int .i64 f.frm, .int .i64 f.dst, .int .i64 f.cls, .int .i64 f.ep, .slice none 0 0]) (by simp [results, Try.results35, go_sem]) rfl ⟨rfl, ((Below.refl _ _).alloc (Nat.le_refl _) _).alloc (by simp) _⟩
section
variable {w : World} {base P K : Nat} {L : Loc} {M : Md}
set_option maxHeartbeats 2000000 in
theorem has_yes (p c : Nat) (h : BoxAt w base P K L M) (hp : p < P) (hc : c < K) : Calls Try.prog 33 #[.pointer (some ⟨L.bb, 0, none⟩), .int .i64 p, .int .i64 c] w fun e w' => e = .returned (.bool true) ∧ w = w' := by
  have c0 := h.cP
  have c1 := h.cK
  have p0 : (0 : Int) ≤ (p : Int) := by omega
  have p1 : (p : Int) < (P : Int) := by omega
  have p2 : (0 : Int) ≤ (c : Int) := by omega
  have p3 : (c : Int) < (K : Int) := by omega
  clear h
  go_enter Try.func33, Try.ntmps33
  go_wp2
  go_ret
  exact ⟨rfl, rfl⟩
set_option maxHeartbeats 2000000 in
theorem has_no (p c : Int) (h : BoxAt w base P K L M) (hn : ¬ (0 ≤ p ∧ p < P ∧ 0 ≤ c ∧ c < K)) : Calls Try.prog 33 #[.pointer (some ⟨L.bb, 0, none⟩), .int .i64 p, .int .i64 c] w fun e w' => e = .returned (.bool false) ∧ w = w' := by
  have c0 := h.cP
  have c1 := h.cK
  have hc : p < 0 ∨ (0 ≤ p ∧ ¬ p < (P : Int)) ∨ (0 ≤ p ∧ p < (P : Int) ∧ c < 0) ∨ (0 ≤ p ∧ p < (P : Int) ∧ 0 ≤ c ∧ ¬ c < (K : Int)) := by omega
  clear h hn
  rcases hc with hc | ⟨h0, hc⟩ | ⟨h0, h1, hc⟩ | ⟨h0, h1, h2, hc⟩
  all_goals
    go_enter Try.func33, Try.ntmps33
    go_wp2
    go_ret
    exact ⟨rfl, rfl⟩
set_option maxHeartbeats 2000000 in
theorem limit_yes (p c : Nat) (h : BoxAt w base P K L M) (hp : p < P) (hc : c < K) : Calls Try.prog 21 #[.pointer (some ⟨L.bb, 0, none⟩), .int .i64 p, .int .i64 c] w fun e w' => e = .returned (.int .i64 ((M.gv p c).a + (M.gv p c).c)) ∧ Below w.heap.size w w' := by
  have HY := Lib.hid (has_yes p c h hp hc)
  have HL := Lib.hid (lim_ok w base _ _ 0 _ _ (h.giver hp hc) rfl (h.ok.gv p hp c hc) (by simp))
  obtain ⟨g, m, q0, q1⟩ := h.wG hp hc
  have h8 := h.ok.p8
  have p0 : (0 : Int) ≤ (p : Int) := by omega
  have p1 : (p : Int) < 8 := by omega
  have p2 : (0 : Int) ≤ (c : Int) := by omega
  have p3 : (c : Int) < (K : Int) := by omega
  clear h
  go_enter Try.func21, Try.ntmps21
  go_wp2_with fail
  refine HY.out.mono ?_
  rintro e w1 ⟨rfl, rfl⟩
  go_wp2_with fail
  refine HL.out.mono ?_
  rintro e w1 ⟨rfl, hb⟩
  have B := Lib.hid hb
  clear hb
  go_wp2_with fail
  go_ret
  exact ⟨rfl, B.out⟩
set_option maxHeartbeats 2000000 in
theorem limit_no (p c : Int) (h : BoxAt w base P K L M) (hn : ¬ (0 ≤ p ∧ p < P ∧ 0 ≤ c ∧ c < K)) : Calls Try.prog 21 #[.pointer (some ⟨L.bb, 0, none⟩), .int .i64 p, .int .i64 c] w fun e w' => e = .returned (.int .i64 0) ∧ w = w' := by
  have HN := Lib.hid (has_no p c h hn)
  clear h hn
  go_enter Try.func21, Try.ntmps21
  go_wp2_with fail
  refine HN.out.mono ?_
  rintro e w1 ⟨rfl, rfl⟩
  go_wp2_with fail
  go_ret
  exact ⟨rfl, rfl⟩
end
/-- A taker has changed. -/
theorem conf_tc (P K : Nat) (L : Loc) (M : Md) (p c : Nat) (x : I2) (hp : p < P) (hc : c < K) : ∀ r, setC (conf P K L M) (.tc p c) (.blk (L.tc p c) 110 (cs2 [x])) r = conf P K L { M with tk := upd2 M.tk p c x } r := by
  intro r
  unfold setC
  split
  · rename_i e
    subst e
    show _ = (if p < P ∧ c < K then _ else _)
    rw [if_pos ⟨hp, hc⟩]
    show _ = some (Pc.blk (L.tc p c) 110 (cs2 [upd2 M.tk p c x p c]))
    rw [upd2_same]
  · rename_i e
    cases r with
    | tc i j =>
      show (if i < P ∧ j < K then _ else _) = (if i < P ∧ j < K then some (Pc.blk (L.tc i j) _ (cs2 [upd2 M.tk p c x i j])) else _)
      rw [upd2_ne _ _ (fun h => e (by rw [h.1, h.2]))]
    | _ => rfl
theorem conf_gc (P K : Nat) (L : Loc) (M : Md) (p c : Nat) (x : I3) (hp : p < P) (hc : c < K) : ∀ r, setC (conf P K L M) (.gc p c) (.blk (L.gc p c) 100 (cs3 [x])) r = conf P K L { M with gv := upd2 M.gv p c x } r := by
  intro r
  unfold setC
  split
  · rename_i e
    subst e
    show _ = (if p < P ∧ c < K then _ else _)
    rw [if_pos ⟨hp, hc⟩]
    show _ = some (Pc.blk (L.gc p c) 100 (cs3 [upd2 M.gv p c x p c]))
    rw [upd2_same]
  · rename_i e
    cases r with
    | gc i j =>
      show (if i < P ∧ j < K then _ else _) = (if i < P ∧ j < K then some (Pc.blk (L.gc i j) _ (cs3 [upd2 M.gv p c x i j])) else _)
      rw [upd2_ne _ _ (fun h => e (by rw [h.1, h.2]))]
    | _ => rfl
/-- The row of the queues of a port, with another queue. -/
theorem conf_qr (P K : Nat) (L : Loc) (M : Md) (p c : Nat) (v : Value) (l : List Fr) (hp : p < P) (hc : c < K) : ∀ r, setC (setC (conf P K L M) (.qf p c) (.row v 39 6 l.length (flC frC l))) (.qr p) (.blk (L.qr p) 30 ((List.range K).map (Bar.upd (L.q p) c v))) r =
    conf P K { L with q := upd2 L.q p c v } { M with q := upd2 M.q p c l } r := by
  have e0 : Bar.upd (L.q p) c v = upd2 L.q p c v p := by
    funext j
    unfold Bar.upd
    by_cases h : j = c
    · rw [if_pos h, h, upd2_same]
    · rw [if_neg h, upd2_ne _ _ (fun e => h e.2)]
  intro r
  unfold setC
  split
  · rename_i e
    subst e
    show _ = (if p < P then _ else _)
    rw [if_pos hp, e0]
  · rename_i e
    split
    · rename_i e1
      subst e1
      show _ = (if p < P ∧ c < K then some (Pc.row (upd2 L.q p c v p c) _ 6 (upd2 M.q p c l p c).length (flC frC (upd2 M.q p c l p c))) else _)
      rw [if_pos ⟨hp, hc⟩, upd2_same, upd2_same]
    · rename_i e1
      cases r with
      | qf i j =>
        show (if i < P ∧ j < K then _ else _) = (if i < P ∧ j < K then some (Pc.row (upd2 L.q p c v i j) _ 6 (upd2 M.q p c l i j).length (flC frC (upd2 M.q p c l i j))) else _)
        rw [upd2_ne _ _ (fun h => e1 (by rw [h.1, h.2])), upd2_ne _ _ (fun h => e1 (by rw [h.1, h.2]))]
      | qr i =>
        show (if i < P then _ else _) = (if i < P then some (Pc.blk (L.qr i) _ ((List.range K).map (upd2 L.q p c v i))) else _)
        have : upd2 L.q p c v i = L.q i := by
          funext j
          exact upd2_ne _ _ (fun h => e (by rw [h.1]))
        rw [this]
      | _ => rfl
/-- A pointer has changed. -/
theorem conf_ptr (P K : Nat) (L : Loc) (M : Md) (i x : Nat) (hi : i < 8) : ∀ r, setC (conf P K L M) .box (.blk L.bb 73 (((List.range 36).map (boxF P K L M.ptr)).set (26 + i) (.int .i64 (x : Int)))) r = conf P K L { M with ptr := Bar.upd M.ptr i x } r := by
  intro r
  unfold setC
  split
  · rename_i e
    subst e
    show some (Pc.blk _ _ _) = some (Pc.blk L.bb _ ((List.range 36).map (boxF P K L (Bar.upd M.ptr i x))))
    rw [← Bar.range_upd _ _ (by omega)]
    congr 3
    funext j
    by_cases h : j = 26 + i
    · rw [h, Bar.upd_same]
      unfold boxF
      rw [if_neg (by omega), if_neg (by omega), if_neg (by omega), if_neg (by omega), if_neg (by omega), if_pos (by omega), Nat.add_sub_cancel_left, Bar.upd_same]
    · rw [Bar.upd_ne _ _ h]
      unfold boxF
      by_cases h0 : 26 ≤ j ∧ j < 34
      · rw [Bar.upd_ne M.ptr x (show j - 26 ≠ i by omega)]
      · by_cases h1 : j < 26
        · simp only [if_pos h1]
        · have h2 : ¬ j < 34 := by omega
          simp only [if_neg h2]
  · rename_i e
    cases r with
    | box => exact absurd rfl e
    | _ => rfl
/-- The crossbar has changed. -/
theorem conf_bar (P K : Nat) (L : Loc) (M : Md) (g a : Nat → Nat) : ∀ r, setC (conf P K L M) .bar (.blk L.xb 95 ((List.range 17).map (barF P g a))) r = conf P K L { M with g := g, a := a } r := by
  intro r
  unfold setC
  split
  · rename_i e
    subst e
    rfl
  · rename_i e
    cases r with
    | bar => exact absurd rfl e
    | _ => rfl
end Go.Proofs.Ytkooihniieepcaa
