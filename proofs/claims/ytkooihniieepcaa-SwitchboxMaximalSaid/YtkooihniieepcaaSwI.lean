/-
  switchbox: requests.
-/
import Derived.Test.YtkooihniieepcaaSwH
namespace Go.Proofs.Ytkooihniieepcaa
open Go.RowKit
set_option linter.unusedVariables false

def rqFull (K : Nat) (M : Md) (o : Nat → Nat → Int) (i k : Nat) : Bool := (List.range K).any (rdyB M o i k)
/-- Rows below i are whole; row i holds k whole entries, behind them no. -/
def RqIs (K : Nat) (M : Md) (o : Nat → Nat → Int) (P : Nat) (q : Nat → Nat → Bool) (i k c : Nat) : Prop :=
  (∀ i' < i, ∀ k' < P, q i' k' = rqFull K M o i' k') ∧ (∀ k' < k, q i k' = rqFull K M o i k') ∧ q i k = (List.range c).any (rdyB M o i k) ∧ ∀ k', k < k' → q i k' = false
def RoRel (W : World) (lb P K : Nat) (M : Md) (o : Nat → Nat → Int) (iv : Value) (w : World) : Prop :=
  ∃ i ≤ P, iv = .int .i64 i ∧ (∃ rb q, St w W.heap.size (rqC lb rb q P i) ∧ ∀ i' < i, ∀ k' < P, q i' k' = rqFull K M o i' k') ∧ Below W.heap.size W w
def RmRel (W : World) (lb P K : Nat) (M : Md) (o : Nat → Nat → Int) (i : Nat) (rb : Nat → Nat) (iv : Value) (w : World) : Prop :=
  ∃ k ≤ P, iv = .int .i64 k ∧ (∃ q, St w W.heap.size (rqC lb rb q P (i + 1)) ∧ RqIs K M o P q i k 0) ∧ Below W.heap.size W w
def RiRel (W : World) (lb P K : Nat) (M : Md) (o : Nat → Nat → Int) (i : Nat) (rb : Nat → Nat) (k : Nat) (iv : Value) (w : World) : Prop :=
  ∃ c ≤ K, iv = .int .i64 c ∧ (∃ q, St w W.heap.size (rqC lb rb q P (i + 1)) ∧ RqIs K M o P q i k c) ∧ Below W.heap.size W w
section
variable {K P : Nat} {M : Md} {o : Nat → Nat → Int} {q : Nat → Nat → Bool} {i k c : Nat}
theorem RqIs.yes (h : RqIs K M o P q i k c) (hk : k < P) (hr : rdyB M o i k c = true) : RqIs K M o P (upd2 q i k true) i k (c + 1) := by
  obtain ⟨h1, h2, h3, h4⟩ := h
  refine ⟨fun i' hi' k' hk' => ?_, fun k' hk' => ?_, ?_, fun k' hk' => ?_⟩
  · rw [upd2_ne _ _ (by omega)]; exact h1 i' hi' k' hk'
  · rw [upd2_ne _ _ (by omega)]; exact h2 k' hk'
  · rw [upd2_same, List.range_succ, List.any_append]; simp [hr]
  · rw [upd2_ne _ _ (by omega)]; exact h4 k' hk'
theorem RqIs.no (h : RqIs K M o P q i k c) (hr : rdyB M o i k c = false) : RqIs K M o P q i k (c + 1) := by
  obtain ⟨h1, h2, h3, h4⟩ := h
  refine ⟨h1, h2, ?_, h4⟩
  rw [h3, List.range_succ, List.any_append]; simp [hr]
theorem RqIs.next (h : RqIs K M o P q i k K) : RqIs K M o P q i (k + 1) 0 := by
  obtain ⟨h1, h2, h3, h4⟩ := h
  refine ⟨h1, fun k' hk' => ?_, ?_, fun k' hk' => h4 k' (by omega)⟩
  · by_cases e : k' = k
    · subst e; exact h3
    · exact h2 k' (by omega)
  · rw [h4 (k + 1) (by omega)]; rfl
theorem RqIs.row (h : RqIs K M o P q i P 0) : ∀ i' < i + 1, ∀ k' < P, q i' k' = rqFull K M o i' k' := by
  obtain ⟨h1, h2, h3, h4⟩ := h
  intro i' hi' k' hk'
  by_cases e : i' = i
  · subst e; exact h2 k' hk'
  · exact h1 i' (by omega) k' hk'
theorem rq_head {w : World} {base lb m : Nat} {rb : Nat → Nat} (h : St w base (rqC lb rb q P m)) {i : Nat} (hi : i < m) (hm : m ≤ P) : w.cell? ⟨lb, i, none⟩ = some (.slice (some ⟨rb i, 0, none⟩) P P) := by
  have := (h.blk (r := none) rfl).cell (fun_get (fun j => if j < m then .slice (some ⟨rb j, 0, none⟩) P P else .slice none 0 0) (show i < P by omega))
  rw [if_pos hi] at this
  exact this
theorem rq_at {w : World} {base lb m : Nat} {rb : Nat → Nat} (h : St w base (rqC lb rb q P m)) {i k : Nat} (hi : i < m) (hk : k < P) : w.cell? ⟨rb i, k, none⟩ = some (.bool (q i k)) ∧ w.frozen? ⟨rb i, k, none⟩ = false ∧ base ≤ rb i := by
  have hr : rqC lb rb q P m (some i) = some (.blk (rb i) 4 ((List.range P).map fun k => .bool (q i k))) := if_pos hi
  exact ⟨(h.blk hr).cell (fun_get (fun k => .bool (q i k)) hk), (h.blk hr).free k, (h.at_ _ _ hr).2⟩
end
section
variable {w w' : World} {base P K : Nat} {L : Loc} {M : Md} {hb ob : Nat} {v : Nat → Value} {o : Nat → Nat → Int}
set_option maxHeartbeats 8000000 in
set_option maxRecDepth 100000 in
theorem requests_ok (h : RyAt w base P K L M hb ob v o) :
    Calls Try.prog 43 #[.pointer (some ⟨L.bb, 0, none⟩), .func (.func 40) #[] #[.pointer (some ⟨ob, 0, none⟩), .pointer (some ⟨hb, 0, none⟩)]] w fun e w' =>
    ∃ lb rb q, e = .returned (.slice (some ⟨lb, 0, none⟩) P P) ∧ St w' w.heap.size (rqC lb rb q P P) ∧ (∀ i < P, ∀ k < P, q i k = rqFull K M o i k) ∧ Below w.heap.size w w' := by
  have H := Lib.hid h
  have a0 := h.bx.cP
  have h8 := h.bx.ok.p8
  have hk8 := h.bx.ok.k8
  have hl1 : L.bb < w.heap.size := Blk.lt (h.bx.st.blk (r := .box) rfl)
  have hmk := make_rows w P (by omega)
  clear h
  go_enter Try.func43, Try.ntmps43
  go_upto_region 2 with (fail)
  clear hmk
  obtain ⟨w1, hw1, S1, B1⟩ : ∃ w1, w.alloc (.cells ((List.range P).map fun _ => Value.slice none 0 0).toArray 32) = w1 ∧ Hid (∃ rb q, St w1 w.heap.size (rqC w.heap.size rb q P 0) ∧ ∀ i' < 0, ∀ k' < P, q i' k' = rqFull K M o i' k') ∧ Hid (Below w.heap.size w w1) := by
    refine ⟨_, rfl, ⟨fun _ => 0, fun _ _ => false, ⟨fun r p hp => ?_, fun r r' p p' k h1 h2 h3 h4 => ?_⟩, fun i' hi => absurd hi (Nat.not_lt_zero _)⟩, (Below.refl _ _).alloc (Nat.le_refl _) _⟩
    · cases r with
      | none => cases hp; exact ⟨Blk.new w _ _, Nat.le_refl _⟩
      | some i => simp [rqC] at hp
    · cases r with
      | some i => simp [rqC] at h1
      | none =>
        cases r' with
        | some i => simp [rqC] at h2
        | none => rfl
  rw [hw1]
  clear hw1 a0
  go_wp2_with fail
  go_loopw [16] (fun iv wr => RoRel w w.heap.size P K M o iv wr) (fun iv _ => P - (intOf iv).toNat)
  case atStart => exact ⟨0, Nat.zero_le _, rfl, S1.out, B1.out⟩
  case round =>
    clear S1 B1
    obtain ⟨i, hi, rfl, hS, hB⟩ := hrel
    have SS := Lib.hid hS; have BB := Lib.hid hB
    clear hS hB
    by_cases hlt : i < P
    · have b0 := (H.out.below BB.out).bx.cP
      have hbs := BB.out.size
      have hl2 : L.bb < wr.heap.size := by omega
      have hii : (i : Int) < (P : Int) := by omega
      have hi0 : (0 : Int) ≤ (i : Int) := by omega
      obtain ⟨rb0, q0, hs, hq⟩ := SS.out
      have SA := Lib.hid hs
      have HQ := Lib.hid hq
      have x0 : wr.cell? ⟨w.heap.size, i, none⟩ = some (.slice none 0 0) := by
        have := (hs.blk (r := none) rfl).cell (fun_get (fun j => if j < i then .slice (some ⟨rb0 j, 0, none⟩) P P else .slice none 0 0) hlt)
        rw [if_neg (Nat.lt_irrefl _)] at this
        exact this
      have x1 : wr.frozen? ⟨w.heap.size, i, none⟩ = false := (hs.blk (r := none) rfl).free i
      have x2 : w.heap.size < wr.heap.size := (hs.blk (r := none) rfl).lt
      have hmk := make_bools wr P (by omega)
      clear hs hq SS
      go_upto_region 6 with (fail)
      clear hmk
      obtain ⟨w3, hw3, S3, B3⟩ : ∃ w3, (wr.setCell ⟨w.heap.size, i, none⟩ (.slice (some ⟨wr.heap.size, 0, none⟩) P P)).alloc (.cells (Array.replicate P (Value.bool false)) 4) = w3 ∧ Hid (∃ q, St w3 w.heap.size (rqC w.heap.size (Bar.upd rb0 i wr.heap.size) q P (i + 1)) ∧ RqIs K M o P q i 0 0) ∧ Hid (Below w.heap.size w w3) := by
        refine ⟨_, rfl, ⟨_, rq_row SA.out hlt, ?_⟩, (BB.out.setCell (p := ⟨w.heap.size, i, none⟩) (Nat.le_refl _) (.slice (some ⟨wr.heap.size, 0, none⟩) P P)).alloc (by simp; omega) _⟩
        refine ⟨fun i' hi' k' hk' => ?_, fun k' hk' => absurd hk' (Nat.not_lt_zero _), ?_, fun k' hk' => ?_⟩
        · unfold Bar.upd
          rw [if_neg (by omega)]
          exact HQ.out i' hi' k' hk'
        · unfold Bar.upd; rw [if_pos rfl]; rfl
        · unfold Bar.upd; rw [if_pos rfl]
      rw [hw3]
      have x3 : w3.cell? ⟨w.heap.size, i, none⟩ = some (.slice (some ⟨wr.heap.size, 0, none⟩) P P) := by
        obtain ⟨q, hs, _⟩ := S3.out
        have := (hs.blk (r := none) rfl).cell (fun_get (fun j => if j < i + 1 then .slice (some ⟨Bar.upd rb0 i wr.heap.size j, 0, none⟩) P P else .slice none 0 0) hlt)
        rw [if_pos (Nat.lt_succ_self _)] at this
        unfold Bar.upd at this
        rw [if_pos rfl] at this
        exact this
      have hz3 := B3.out.size
      obtain ⟨rb, hrb⟩ : ∃ rb, rb = Bar.upd rb0 i wr.heap.size := ⟨_, rfl⟩
      have HRB : Hid (rb i = wr.heap.size) := by rw [hrb]; unfold Bar.upd; rw [if_pos rfl]; exact Lib.hid rfl
      rw [← hrb] at S3
      generalize wr.heap.size = rk at *
      clear hw3 hrb x0 x1 x2 SA HQ b0 hl2
      go_wp2_with fail
      go_loopw [32] (fun iv wx => RmRel w w.heap.size P K M o i rb iv wx) (fun iv _ => P - (intOf iv).toNat)
      case atStart => exact ⟨0, Nat.zero_le _, rfl, S3.out, B3.out⟩
      case round =>
        clear S3 B3 x3 hz3
        obtain ⟨k, hk, rfl, hS, hB⟩ := hrel
        have SM := Lib.hid hS; have BM := Lib.hid hB
        clear hS hB
        by_cases hlk : k < P
        · have b1 := (H.out.below BM.out).bx.cK
          have hki : (k : Int) < (P : Int) := by omega
          have hk0 : (0 : Int) ≤ (k : Int) := by omega
          go_wp2_with fail
          go_loopw [39] (fun iv wx => RiRel w w.heap.size P K M o i rb k iv wx) (fun iv _ => K - (intOf iv).toNat)
          case atStart => exact ⟨0, Nat.zero_le _, rfl, SM.out, BM.out⟩
          case round =>
            clear SM BM b1
            obtain ⟨c, hc, rfl, hS, hB⟩ := hrel
            have SN := Lib.hid hS; have BN := Lib.hid hB
            clear hS hB
            by_cases hlc : c < K
            · have hci : (c : Int) < (K : Int) := by omega
              have RD := Lib.hid (ready_ok (H.out.below BN.out) i k c hlt hlk hlc)
              go_wp2_with fail
              refine RD.out.mono ?_
              rintro e w4 ⟨rfl, hb4⟩
              have B4 := Lib.hid (BN.out.trans (hb4.mono BN.out.size))
              obtain ⟨q, hs, hq⟩ := SN.out
              have S4 := Lib.hid (hs.below hb4)
              have HQ := Lib.hid hq
              clear hs hq hb4 SN BN RD
              have y0 := rq_head S4.out (Nat.lt_succ_self i) (by omega)
              obtain ⟨y1, y2, y3⟩ := rq_at S4.out (Nat.lt_succ_self i) hlk
              cases hr : rdyB M o i k c with
              | true =>
                have HR := Lib.hid hr
                clear hr
                go_wp2_with fail
                go_roundw
                case rel => exact ⟨c + 1, by omega, by go_num, ⟨_, rq_set S4.out (Nat.lt_succ_self i) hlk, HQ.out.yes hlk HR.out⟩, B4.out.setCell (p := ⟨rb i, k, none⟩) y3 (.bool true)⟩
                case measure => simp [intOf]; omega
              | false =>
                have HR := Lib.hid hr
                clear hr
                go_wp2_with fail
                go_roundw
                case rel => exact ⟨c + 1, by omega, by go_num, ⟨q, S4.out, HQ.out.no HR.out⟩, B4.out⟩
                case measure => simp [intOf]; omega
            · obtain rfl : c = K := by omega
              obtain ⟨q, hs, hq⟩ := SN.out
              have S4 := Lib.hid hs; have HQ := Lib.hid hq
              clear hs hq SN
              go_wp2_with fail
              go_roundw
              case rel => exact ⟨k + 1, by omega, by go_num, ⟨q, S4.out, HQ.out.next⟩, BN.out⟩
              case measure => simp [intOf]; omega
        · obtain rfl : k = P := by omega
          obtain ⟨q, hs, hq⟩ := SM.out
          have S4 := Lib.hid hs; have HQ := Lib.hid hq
          clear hs hq SM
          go_wp2_with fail
          go_roundw
          case rel => exact ⟨i + 1, by omega, by go_num, ⟨rb, q, S4.out, HQ.out.row⟩, BM.out⟩
          case measure => simp [intOf]; omega
    · obtain rfl : i = P := by omega
      obtain ⟨rb, q, hs, hq⟩ := SS.out
      have S4 := Lib.hid hs; have HQ := Lib.hid hq
      clear hs hq SS
      go_wp2_with fail
      go_ret
      exact ⟨_, rb, q, rfl, S4.out, HQ.out, BB.out⟩
end
end Go.Proofs.Ytkooihniieepcaa
