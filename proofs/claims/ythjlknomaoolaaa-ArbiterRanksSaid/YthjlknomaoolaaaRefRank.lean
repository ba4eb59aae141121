/-
  Contract of fairlinkref10.Before and fairlinkref10.Ranked: the same model 'rk'.
-/
import Derived.Test.YthjlknomaoolaaaRanked
namespace Go.Proofs.Ythjlknomaoolaaa
open Go.RowKit

set_option maxHeartbeats 1000000 in
theorem refbefore_any (w : World) (aa ac : Option Addr) (na nc ca cc : Nat) (p ci ck ai ak : Int) (i k : Nat)
    (hia : (i : Int) < na) (hka : (k : Int) < na) (hic : (i : Int) < nc) (hkc : (k : Int) < nc) (oa : okAd aa = true) (oc : okAd ac = true)
    (c1 : w.cell? (adr aa i) = some (.int .i64 ai)) (c2 : w.cell? (adr aa k) = some (.int .i64 ak)) (c3 : w.cell? (adr ac i) = some (.int .i64 ci)) (c4 : w.cell? (adr ac k) = some (.int .i64 ck)) :
    Calls Try.prog 25 #[.slice ac nc cc, .slice aa na ca, .int .i64 p, .int .i64 i, .int .i64 k] w fun e w' =>
      e = .returned (.bool (befV ci ck ai ak p i k)) ∧ Qt w w' := by
  have hi0 : (0 : Int) ≤ i := by omega
  have hk0 : (0 : Int) ≤ k := by omega
  have hn : ∃ n, Hid (befV ci ck ai ak p i k = n) := ⟨_, rfl⟩
  obtain ⟨res, hres⟩ := hn
  rw [hres.out]
  by_cases h1 : p ≤ ai <;> by_cases h2 : p ≤ ak
  all_goals (try have g1 : decide (p ≤ ai) = false := by simpa using h1); (try have g2 : decide (p ≤ ak) = false := by simpa using h2)
  · by_cases h3 : ai = ak
    · have h4 : (ai != ak) = false := by simp [h3]
      have hr : Hid (decide ((i : Int) < k) = res) := by rw [← hres.out]; show _ = _; simp [befV, h2, h3]
      clear h3
      go_enter Try.func25, Try.ntmps25
      go_wp2
      repeat (go_quiet (fail); go_wp2)
      go_ret
      exact ⟨by rw [← hr.out]; first | rfl | simp, by repeat (first | exact Qt.refl _ | apply Qt.drewN)⟩
    · have h4 : (ai != ak) = true := by simp [h3]
      have hr : Hid (decide (ak < ai) = res) := by rw [← hres.out]; show _ = _; simp [befV, h1, h2, h3]
      clear h3
      go_enter Try.func25, Try.ntmps25
      go_wp2
      repeat (go_quiet (fail); go_wp2)
      go_ret
      exact ⟨by rw [← hr.out]; first | rfl | simp, by repeat (first | exact Qt.refl _ | apply Qt.drewN)⟩
  · have hr : Hid (true = res) := by rw [← hres.out]; show _ = _; simp [befV, h1, h2]
    go_enter Try.func25, Try.ntmps25
    go_wp2
    repeat (go_quiet (fail); go_wp2)
    go_ret
    exact ⟨by rw [← hr.out]; first | rfl | simp, by repeat (first | exact Qt.refl _ | apply Qt.drewN)⟩
  · have hr : Hid (false = res) := by rw [← hres.out]; show _ = _; simp [befV, h1, h2]
    go_enter Try.func25, Try.ntmps25
    go_wp2
    repeat (go_quiet (fail); go_wp2)
    go_ret
    exact ⟨by rw [← hr.out]; first | rfl | simp, by repeat (first | exact Qt.refl _ | apply Qt.drewN)⟩
  · by_cases h5 : ci = ck
    · have h6 : (ci != ck) = false := by simp [h5]
      by_cases h3 : ai = ak
      · have h4 : (ai != ak) = false := by simp [h3]
        have hr : Hid (decide ((i : Int) < k) = res) := by rw [← hres.out]; show _ = _; simp [befV, h2, h3, h5]
        clear h3 h5
        go_enter Try.func25, Try.ntmps25
        go_wp2
        repeat (go_quiet (fail); go_wp2)
        go_ret
        exact ⟨by rw [← hr.out]; first | rfl | simp, by repeat (first | exact Qt.refl _ | apply Qt.drewN)⟩
      · have h4 : (ai != ak) = true := by simp [h3]
        have hr : Hid (decide (ak < ai) = res) := by rw [← hres.out]; show _ = _; simp [befV, h1, h2, h3, h5]
        clear h3 h5
        go_enter Try.func25, Try.ntmps25
        go_wp2
        repeat (go_quiet (fail); go_wp2)
        go_ret
        exact ⟨by rw [← hr.out]; first | rfl | simp, by repeat (first | exact Qt.refl _ | apply Qt.drewN)⟩
    · have h6 : (ci != ck) = true := by simp [h5]
      have hr : Hid (decide (ci < ck) = res) := by rw [← hres.out]; show _ = _; simp [befV, h1, h2, h5]
      clear h5
      go_enter Try.func25, Try.ntmps25
      go_wp2
      repeat (go_quiet (fail); go_wp2)
      go_ret
      exact ⟨by rw [← hr.out]; first | rfl | simp, by repeat (first | exact Qt.refl _ | apply Qt.drewN)⟩

structure RrMem (ac ar aa : Option Addr) (cs : List Int) (rs : List Bool) (ages : List Int) (wr : World) : Prop where
  s1 : SlI wr ac cs
  s2 : SlB wr ar rs
  s3 : SlI wr aa ages

def RrRel (w : World) (n : Nat) (p : Int) (cs : List Int) (rs : List Bool) (ages : List Int) (c i : Value) (wr : World) : Prop :=
  ∃ k : Nat, k ≤ n ∧ i = .int .i64 k ∧ c = .int .i64 (rk cs rs ages p k) ∧ Qt w wr

set_option maxHeartbeats 1000000 in
theorem refranked_any (w : World) (ac ar aa : Option Addr) (n cc cr ca : Nat) (p : Int) (cs : List Int) (rs : List Bool) (ages : List Int) (hn : n ≤ 1000)
    (l1 : cs.length = n) (l2 : rs.length = n) (l3 : ages.length = n) (s1 : SlI w ac cs) (s2 : SlB w ar rs) (s3 : SlI w aa ages) :
    Calls Try.prog 13 #[.slice ac n cc, .slice ar n cr, .slice aa n ca, .int .i64 p] w fun e w' =>
      e = .returned (.int .i64 (rk cs rs ages p n)) ∧ Qt w w' := by
  have L1 := Lib.hid l1; have L2 := Lib.hid l2; have L3 := Lib.hid l3; clear l1 l2 l3
  have S1 := Lib.hid s1; have S2 := Lib.hid s2; have S3 := Lib.hid s3; clear s1 s2 s3
  go_enter Try.func13, Try.ntmps13
  go_wp2
  go_loopw [9, 10] (fun c i wr => RrRel w n p cs rs ages c i wr) (fun _ i _ => n - (intOf i).toNat)
  case atStart => exact ⟨0, Nat.zero_le _, rfl, rfl, Qt.refl _⟩
  case round =>
    obtain ⟨k, hk, rfl, rfl, hm⟩ := hrel
    have hr := rk_range cs rs ages p k
    have HM := Lib.hid hm
    by_cases hlt : k < n
    · obtain ⟨b, hb, okb, cb⟩ := (S2.out.qt hm).get (k := k) (by rw [L2.out]; exact hlt)
      have hrs : Hid (rk cs rs ages p (k + 1) = if b && (decide (rk cs rs ages p k < 0) || befV (cs.getD k 0) (cs.getD (rk cs rs ages p k).toNat 0) (ages.getD k 0) (ages.getD (rk cs rs ages p k).toNat 0) p k (rk cs rs ages p k)) then (k : Int) else rk cs rs ages p k) := by
        show _ = _
        simp only [rk, List.getD_eq_getElem?_getD, hb.out, Option.getD_some]
      cases b with
      | false =>
        clear hm
        go_wp2
        go_roundw
        case rel => exact ⟨k + 1, by omega, by go_num, by rw [hrs.out]; rfl, HM.out⟩
        case measure => simp [intOf]; omega
      | true =>
        rcases hr with hr | ⟨hr0, hr1⟩
        · have hneg : rk cs rs ages p k < 0 := by omega
          clear hm hr
          go_wp2
          go_roundw
          case rel => exact ⟨k + 1, by omega, by go_num, by rw [hrs.out]; simp [hneg], HM.out⟩
          case measure => simp [intOf]; omega
        · obtain ⟨c, hc⟩ := Int.eq_ofNat_of_zero_le hr0
          have hcn : c < n := by omega
          obtain ⟨ci, hci, okc, d1⟩ := (S1.out.qt hm).get (k := k) (by rw [L1.out]; exact hlt)
          obtain ⟨ck, hck, _, d2⟩ := (S1.out.qt hm).get (k := c) (by rw [L1.out]; exact hcn)
          obtain ⟨ai, hai, oka, d3⟩ := (S3.out.qt hm).get (k := k) (by rw [L3.out]; exact hlt)
          obtain ⟨ak, hak, _, d4⟩ := (S3.out.qt hm).get (k := c) (by rw [L3.out]; exact hcn)
          have hrs' : Hid (rk cs rs ages p (k + 1) = if befV ci ck ai ak p k c then (k : Int) else (c : Int)) := by
            show _ = _
            rw [hrs.out, hc]
            have hneg : ¬ ((c : Int) < 0) := by omega
            simp only [hneg, decide_false, Bool.false_or, Bool.true_and, List.getD_eq_getElem?_getD, Int.toNat_natCast, hci.out, hck.out, hai.out, hak.out, Option.getD_some]
          clear hrs hr0 hr1 hm
          rw [hc]
          have HC := Lib.hid hc; clear hc
          have hneg : ¬ ((c : Int) < 0) := by omega
          have B := refbefore_any wr aa ac n n ca cc p ci ck ai ak k c (by omega) (by omega) (by omega) (by omega) oka okc d3 d4 d1 d2
          generalize befV ci ck ai ak p k c = r at B hrs'
          have HB := Lib.hid B; clear B d1 d2 d3 d4
          cases r
          all_goals
            go_wp2_with (go_at_call 25; refine HB.out.mono ?_; rintro e w1 ⟨rfl, hq⟩)
            go_roundw
            case rel => exact ⟨k + 1, by omega, by go_num, by rw [hrs'.out]; rfl, HM.out.trans hq⟩
            case measure => simp [intOf]; omega
    · obtain rfl : k = n := by omega
      go_wp2
      go_ret
      exact ⟨rfl, HM.out⟩
end Go.Proofs.Ythjlknomaoolaaa
