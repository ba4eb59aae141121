/-
  Contract of arbiter.Ranked: it returns what the model 'rk' says.
-/
import Derived.Test.YthjlknomaoolaaaRank
namespace Go.Proofs.Ythjlknomaoolaaa
open Go.RowKit

/-- The choice among the first k requests. -/
def rk (cs : List Int) (rs : List Bool) (ages : List Int) (p : Int) : Nat → Int
  | 0 => -1
  | k + 1 =>
    let c := rk cs rs ages p k
    if rs.getD k false && (decide (c < 0) || befV (cs.getD k 0) (cs.getD c.toNat 0) (ages.getD k 0) (ages.getD c.toNat 0) p k c) then (k : Int) else c

theorem rk_range (cs : List Int) (rs : List Bool) (ages : List Int) (p : Int) : ∀ k, rk cs rs ages p k = -1 ∨ (0 ≤ rk cs rs ages p k ∧ rk cs rs ages p k < k)
  | 0 => .inl rfl
  | k + 1 => by
    have ih := rk_range cs rs ages p k
    simp only [rk]
    split
    · right; omega
    · rcases ih with ih | ih
      · exact .inl ih
      · right; omega

structure RkMem (w : World) (ac ar aa : Option Addr) (n cc ca : Nat) (p : Int) (cs : List Int) (rs : List Bool) (ages : List Int) (wr : World) : Prop where
  hA : wr.cell? ⟨w.heap.size + 1, 0, none⟩ = some (.slice aa n ca)
  hP : wr.cell? ⟨w.heap.size + 1 + 1, 0, none⟩ = some (.int .i64 p)
  hC : wr.cell? ⟨w.heap.size, 0, none⟩ = some (.slice ac n cc)
  s1 : SlI wr ac cs
  s2 : SlB wr ar rs
  s3 : SlI wr aa ages
  bel : Below w.heap.size w wr

theorem RkMem.qt {w : World} {ac ar aa : Option Addr} {n cc ca : Nat} {p : Int} {cs : List Int} {rs : List Bool} {ages : List Int} {wr w' : World}
    (h : RkMem w ac ar aa n cc ca p cs rs ages wr) (q : Qt wr w') : RkMem w ac ar aa n cc ca p cs rs ages w' :=
  ⟨by rw [q.cell]; exact h.hA, by rw [q.cell]; exact h.hP, by rw [q.cell]; exact h.hC, h.s1.qt q, h.s2.qt q, h.s3.qt q, h.bel.trans (q.below _)⟩

def RkRel (w : World) (ac ar aa : Option Addr) (n cc ca : Nat) (p : Int) (cs : List Int) (rs : List Bool) (ages : List Int) (c i : Value) (wr : World) : Prop :=
  ∃ k : Nat, k ≤ n ∧ i = .int .i64 k ∧ c = .int .i64 (rk cs rs ages p k) ∧ RkMem w ac ar aa n cc ca p cs rs ages wr

set_option maxHeartbeats 1000000 in
theorem ranked_any (w : World) (ac ar aa : Option Addr) (n cc cr ca : Nat) (p : Int) (cs : List Int) (rs : List Bool) (ages : List Int) (hn : n ≤ 1000)
    (l1 : cs.length = n) (l2 : rs.length = n) (l3 : ages.length = n) (s1 : SlI w ac cs) (s2 : SlB w ar rs) (s3 : SlI w aa ages) :
    Calls Try.prog 12 #[.slice ac n cc, .slice ar n cr, .slice aa n ca, .int .i64 p] w fun e w' =>
      e = .returned (.tuple #[.int .i64 (rk cs rs ages p n), .bool (decide (0 ≤ rk cs rs ages p n))]) ∧ Below w.heap.size w w' := by
  have L1 := Lib.hid l1; have L2 := Lib.hid l2; have L3 := Lib.hid l3; clear l1 l2 l3
  have m0 : RkMem w ac ar aa n cc ca p cs rs ages (((w.alloc (.cells #[.slice ac n cc] 22)).alloc (.cells #[.slice aa n ca] 22)).alloc (.cells #[.int .i64 p] 3)) := by
    have b : Below w.heap.size w (((w.alloc (.cells #[.slice ac n cc] 22)).alloc (.cells #[.slice aa n ca] 22)).alloc (.cells #[.int .i64 p] 3)) :=
      (((Below.refl _ _).alloc (Nat.le_refl _) _).alloc (by simp) _).alloc (by simp; omega) _
    exact ⟨by go_simp, by go_simp, by go_simp, s1.below b, s2.below b, s3.below b, b⟩
  have M0 := Lib.hid m0; clear m0
  have S1 := Lib.hid s1; have S2 := Lib.hid s2; have S3 := Lib.hid s3; clear s1 s2 s3
  go_enter Try.func12, Try.ntmps12
  go_wp2
  go_loopw [11, 29] (fun c i wr => RkRel w ac ar aa n cc ca p cs rs ages c i wr) (fun _ i _ => n - (intOf i).toNat)
  case atStart => exact ⟨0, Nat.zero_le _, rfl, rfl, M0.out⟩
  case round =>
    obtain ⟨k, hk, rfl, rfl, hm⟩ := hrel
    have hr := rk_range cs rs ages p k
    have HM := Lib.hid hm
    obtain ⟨hA, hP, hC, t1, t2, t3, _⟩ := hm
    by_cases hlt : k < n
    · obtain ⟨b, hb, okb, cb⟩ := t2.get (k := k) (by rw [L2.out]; exact hlt)
      have hrs : Hid (rk cs rs ages p (k + 1) = if b && (decide (rk cs rs ages p k < 0) || befV (cs.getD k 0) (cs.getD (rk cs rs ages p k).toNat 0) (ages.getD k 0) (ages.getD (rk cs rs ages p k).toNat 0) p k (rk cs rs ages p k)) then (k : Int) else rk cs rs ages p k) := by
        show _ = _
        simp only [rk, List.getD_eq_getElem?_getD, hb.out, Option.getD_some]
      cases b with
      | false =>
        clear t1 t3 hA hP hC
        go_wp2
        go_roundw
        case rel => exact ⟨k + 1, by omega, by go_num, by rw [hrs.out]; rfl, HM.out⟩
        case measure => simp [intOf]; omega
      | true =>
        rcases hr with hr | ⟨hr0, hr1⟩
        · have hneg : rk cs rs ages p k < 0 := by omega
          clear t1 t3 hA hP hC hr
          go_wp2
          go_roundw
          case rel => exact ⟨k + 1, by omega, by go_num, by rw [hrs.out]; simp [hneg], HM.out⟩
          case measure => simp [intOf]; omega
        · obtain ⟨c, hc⟩ := Int.eq_ofNat_of_zero_le hr0
          have hcn : c < n := by omega
          obtain ⟨ci, hci, okc, d1⟩ := t1.get (k := k) (by rw [L1.out]; exact hlt)
          obtain ⟨ck, hck, _, d2⟩ := t1.get (k := c) (by rw [L1.out]; exact hcn)
          obtain ⟨ai, hai, oka, d3⟩ := t3.get (k := k) (by rw [L3.out]; exact hlt)
          obtain ⟨ak, hak, _, d4⟩ := t3.get (k := c) (by rw [L3.out]; exact hcn)
          have hrs' : Hid (rk cs rs ages p (k + 1) = if befV ci ck ai ak p k c then (k : Int) else (c : Int)) := by
            show _ = _
            rw [hrs.out, hc]
            have hneg : ¬ ((c : Int) < 0) := by omega
            simp only [hneg, decide_false, Bool.false_or, Bool.true_and, List.getD_eq_getElem?_getD, Int.toNat_natCast, hci.out, hck.out, hai.out, hak.out, Option.getD_some]
          clear hrs hr0 hr1 t1 t3
          rw [hc]
          have HC := Lib.hid hc; clear hc
          have hneg : ¬ ((c : Int) < 0) := by omega
          have B := before_any wr (w.heap.size + 1) (w.heap.size + 1 + 1) w.heap.size aa ac n n ca cc p ci ck ai ak k c hA hP hC (by omega) (by omega) (by omega) (by omega) oka okc d3 d4 d1 d2
          generalize befV ci ck ai ak p k c = r at B hrs'
          have HB := Lib.hid B; clear B hA hP hC d1 d2 d3 d4
          cases r
          all_goals
            go_wp2_with (go_at_call 24; refine HB.out.mono ?_; rintro e w1 ⟨rfl, hq⟩)
            go_roundw
            case rel => exact ⟨k + 1, by omega, by go_num, by rw [hrs'.out]; rfl, HM.out.qt hq⟩
            case measure => simp [intOf]; omega
    · obtain rfl : k = n := by omega
      go_wp2
      go_ret2
      exact ⟨rfl, HM.out.bel⟩
end Go.Proofs.Ythjlknomaoolaaa
