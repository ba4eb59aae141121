/-
  switchbox: the table of requests in memory.
-/
import Derived.Test.YtkooihniieepcaaSwG
namespace Go.Proofs.Ytkooihniieepcaa
open Go.RowKit
set_option linter.unusedVariables false

theorem Try.infoRow : (Try.prog.info? 32).map (fun i => (i.zero, i.size, i.bytes)) = some (some (.slice none 0 0), 1, 24) := by kernel_rfl
theorem make_rows (w : World) (n : Nat) (h : n ≤ 1000000) : (Instr.makeSlice 92 (.int .i64 n) (.int .i64 n)).run Try.prog w =
    .ok (.slice (some ⟨w.heap.size, 0, none⟩) n n) (w.alloc (.cells ((List.range n).map fun _ => Value.slice none 0 0).toArray 32)) := by
  obtain ⟨i, hi, hz, hs, hb⟩ := info_parts Try.infoRow
  rw [run_make w 92 32 i _ Try.underlying92 hi hz .i64 .i64 n n (by omega) (by omega) (by rw [hb]; omega) (by omega)]
  have e : madeCells (Value.slice none 0 0).cells (((n : Int).toNat) * i.size) = ((List.range n).map fun _ => Value.slice none 0 0).toArray := by
    rw [hs, Nat.mul_one, Int.toNat_natCast]
    apply Array.toList_inj.1
    rw [show (Value.slice none 0 0).cells = #[Value.slice none 0 0] from rfl, toList_madeCells_one]
    have := fun_const (fun _ : Unit => Value.slice none 0 0) n ()
    rw [← this]
    simp
  rw [e, Int.toNat_natCast]
def rqC (lb : Nat) (rb : Nat → Nat) (q : Nat → Nat → Bool) (P m : Nat) : Option Nat → Option Pc
  | none => some (.blk lb 32 ((List.range P).map fun i => if i < m then .slice (some ⟨rb i, 0, none⟩) P P else .slice none 0 0))
  | some i => if i < m then some (.blk (rb i) 4 ((List.range P).map fun k => .bool (q i k))) else none
section
variable {w w' : World} {base lb P m : Nat} {rb : Nat → Nat} {q : Nat → Nat → Bool}
theorem rq_row (h : St w base (rqC lb rb q P m)) (hm : m < P) : St ((w.setCell ⟨lb, m, none⟩ (.slice (some ⟨w.heap.size, 0, none⟩) P P)).alloc (.cells (Array.replicate P (Value.bool false)) 4)) base (rqC lb (Bar.upd rb m w.heap.size) (Bar.upd q m fun _ => false) P (m + 1)) := by
  have hl : base ≤ w.heap.size := by
    have := h.lt (k := lb) ⟨none, _, rfl, rfl⟩
    omega
  have e0 : (Array.replicate P (Value.bool false)) = ((List.range P).map fun _ => Value.bool false).toArray := by
    apply Array.toList_inj.1
    have := fun_const (fun _ : Unit => Value.bool false) P ()
    simpa using this
  rw [e0]
  have s1 := h.store (r := none) (k := lb) (T := 32) (i := m) (v := .slice (some ⟨w.heap.size, 0, none⟩) P P) rfl (Bar.range_upd _ _ hm).symm
  have hz : (w.setCell ⟨lb, m, none⟩ (.slice (some ⟨w.heap.size, 0, none⟩) P P)).heap.size = w.heap.size := by simp
  have s2 := s1.put (some m) (.blk w.heap.size 4 ((List.range P).map fun _ => Value.bool false)) (Upd.of_below (S := fun _ => False) ((Below.refl _ _).alloc (Nat.le_refl _) (.cells ((List.range P).map fun _ => Value.bool false).toArray 4))) (fun k hk => hk.elim) ⟨by
    have := Blk.new (w.setCell ⟨lb, m, none⟩ (.slice (some ⟨w.heap.size, 0, none⟩) P P)) 4 ((List.range P).map fun _ => Value.bool false)
    rw [hz] at this
    exact this, hl⟩ (fun k hk => by
    have : w.heap.size = k := by simpa [Pc.foot] using hk
    exact .inr (by rw [hz]; omega))
  refine s2.congr fun r => ?_
  cases r with
  | none =>
    rw [setC_ne _ _ (by intro e; cases e), setC_same]
    show some (Pc.blk lb _ _) = some (Pc.blk lb _ _)
    congr 2
    apply List.map_congr_left
    intro i hi
    unfold Bar.upd
    by_cases e : i = m
    · rw [if_pos e, if_pos (by omega), if_pos e]
    · rw [if_neg e, if_neg e]
      by_cases h2 : i < m
      · simp only [if_pos h2, if_pos (show i < m + 1 by omega)]
      · simp only [if_neg h2, if_neg (show ¬ i < m + 1 by omega)]
  | some i =>
    by_cases e : i = m
    · subst e
      rw [setC_same]
      show _ = (if i < i + 1 then some (Pc.blk (Bar.upd rb i w.heap.size i) _ _) else none)
      rw [if_pos (by omega)]
      unfold Bar.upd
      rw [if_pos rfl, if_pos rfl]
    · rw [setC_ne _ _ (by intro h; cases h; exact e rfl), setC_ne _ _ (by intro h; cases h)]
      show (if i < m then some (Pc.blk (rb i) _ _) else none) = (if i < m + 1 then some (Pc.blk (Bar.upd rb m w.heap.size i) _ ((List.range P).map fun k => .bool (Bar.upd q m (fun _ => false) i k))) else none)
      unfold Bar.upd
      rw [if_neg e, if_neg e]
      by_cases h2 : i < m
      · rw [if_pos h2, if_pos (by omega)]
      · rw [if_neg h2, if_neg (by omega)]
theorem rq_set (h : St w base (rqC lb rb q P m)) {i k : Nat} (hi : i < m) (hk : k < P) : St (w.setCell ⟨rb i, k, none⟩ (.bool true)) base (rqC lb rb (upd2 q i k true) P m) := by
  have hr : rqC lb rb q P m (some i) = some (.blk (rb i) 4 ((List.range P).map fun k => .bool (q i k))) := if_pos hi
  have s2 := h.store (r := some i) (i := k) (v := .bool true) hr (Bar.range_upd _ _ hk).symm
  refine s2.congr fun r => ?_
  cases r with
  | none => rw [setC_ne _ _ (by intro e; cases e)]; rfl
  | some j =>
    by_cases e : j = i
    · subst e
      rw [setC_same]
      show _ = (if j < m then some (Pc.blk (rb j) _ ((List.range P).map fun k' => .bool (upd2 q j k true j k'))) else none)
      rw [if_pos hi]
      congr 2
      apply List.map_congr_left
      intro k' _
      unfold Bar.upd upd2
      by_cases e : k' = k <;> simp [e]
    · rw [setC_ne _ _ (by intro h; cases h; exact e rfl)]
      show (if j < m then some (Pc.blk (rb j) _ _) else none) = (if j < m then some (Pc.blk (rb j) _ ((List.range P).map fun k' => .bool (upd2 q i k true j k'))) else none)
      congr 3
      apply List.map_congr_left
      intro k' _
      rw [upd2_ne _ _ (fun h => e h.1)]
end
end Go.Proofs.Ytkooihniieepcaa
