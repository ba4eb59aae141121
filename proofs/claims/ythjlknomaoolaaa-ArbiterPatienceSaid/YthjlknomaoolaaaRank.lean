/-
  Contract of the closure of arbiter.Ranked and of arbiter.Ranked.
-/
import Derived.Test.YthjlknomaoolaaaLib
namespace Go.Proofs.Ythjlknomaoolaaa
open Go.RowKit

/-- Request i is chosen rather than k: classes ci, ck; ages ai, ak. -/
def befV (ci ck ai ak p i k : Int) : Bool :=
  if decide (p ≤ ai) != decide (p ≤ ak) then decide (p ≤ ai)
  else if !decide (p ≤ ai) && ci != ck then decide (ci < ck)
  else if ai != ak then decide (ak < ai)
  else decide (i < k)

set_option maxHeartbeats 1000000 in
theorem before_any (w : World) (bA bP bC : Nat) (aa ac : Option Addr) (na nc ca cc : Nat) (p ci ck ai ak : Int) (i k : Nat)
    (hA : w.cell? ⟨bA, 0, none⟩ = some (.slice aa na ca)) (hP : w.cell? ⟨bP, 0, none⟩ = some (.int .i64 p)) (hC : w.cell? ⟨bC, 0, none⟩ = some (.slice ac nc cc))
    (hia : (i : Int) < na) (hka : (k : Int) < na) (hic : (i : Int) < nc) (hkc : (k : Int) < nc) (oa : okAd aa = true) (oc : okAd ac = true)
    (c1 : w.cell? (adr aa i) = some (.int .i64 ai)) (c2 : w.cell? (adr aa k) = some (.int .i64 ak)) (c3 : w.cell? (adr ac i) = some (.int .i64 ci)) (c4 : w.cell? (adr ac k) = some (.int .i64 ck)) :
    Calls Try.prog 24 #[.int .i64 i, .int .i64 k, .pointer (some ⟨bA, 0, none⟩), .pointer (some ⟨bP, 0, none⟩), .pointer (some ⟨bC, 0, none⟩)] w fun e w' =>
      e = .returned (.bool (befV ci ck ai ak p i k)) ∧ Qt w w' := by
  have hi0 : (0 : Int) ≤ i := by omega
  have hk0 : (0 : Int) ≤ k := by omega
  have hn : ∃ n, Hid (befV ci ck ai ak p i k = n) := ⟨_, rfl⟩
  obtain ⟨res, hres⟩ := hn
  rw [hres.out]
  by_cases h1 : p ≤ ai <;> by_cases h2 : p ≤ ak
  all_goals (try have g1 : decide (p ≤ ai) = false := by simpa using h1); (try have g2 : decide (p ≤ ak) = false := by simpa using h2)
  · by_cases h3 : ai = ak
    · have h4 : (ai != ak) = false := by simp [h3]
      have hr : Hid (decide ((i : Int) < k) = res) := by rw [← hres.out]; show _ = _; simp [befV, h2, h3]
      clear h3
      go_enter Try.func24, Try.ntmps24
      go_wp2
      repeat (go_quiet (fail); go_wp2)
      go_ret
      exact ⟨by rw [← hr.out]; first | rfl | simp, by repeat (first | exact Qt.refl _ | apply Qt.drewN)⟩
    · have h4 : (ai != ak) = true := by simp [h3]
      have hr : Hid (decide (ak < ai) = res) := by rw [← hres.out]; show _ = _; simp [befV, h1, h2, h3]
      clear h3
      go_enter Try.func24, Try.ntmps24
      go_wp2
      repeat (go_quiet (fail); go_wp2)
      go_ret
      exact ⟨by rw [← hr.out]; first | rfl | simp, by repeat (first | exact Qt.refl _ | apply Qt.drewN)⟩
  · have hr : Hid (true = res) := by rw [← hres.out]; show _ = _; simp [befV, h1, h2]
    go_enter Try.func24, Try.ntmps24
    go_wp2
    repeat (go_quiet (fail); go_wp2)
    go_ret
    exact ⟨by rw [← hr.out]; first | rfl | simp, by repeat (first | exact Qt.refl _ | apply Qt.drewN)⟩
  · have hr : Hid (false = res) := by rw [← hres.out]; show _ = _; simp [befV, h1, h2]
    go_enter Try.func24, Try.ntmps24
    go_wp2
    repeat (go_quiet (fail); go_wp2)
    go_ret
    exact ⟨by rw [← hr.out]; first | rfl | simp, by repeat (first | exact Qt.refl _ | apply Qt.drewN)⟩
  · by_cases h5 : ci = ck
    · have h6 : (ci != ck) = false := by simp [h5]
      by_cases h3 : ai = ak
      · have h4 : (ai != ak) = false := by simp [h3]
        have hr : Hid (decide ((i : Int) < k) = res) := by rw [← hres.out]; show _ = _; simp [befV, h2, h3, h5]
        clear h3 h5
        go_enter Try.func24, Try.ntmps24
        go_wp2
        repeat (go_quiet (fail); go_wp2)
        go_ret
        exact ⟨by rw [← hr.out]; first | rfl | simp, by repeat (first | exact Qt.refl _ | apply Qt.drewN)⟩
      · have h4 : (ai != ak) = true := by simp [h3]
        have hr : Hid (decide (ak < ai) = res) := by rw [← hres.out]; show _ = _; simp [befV, h1, h2, h3, h5]
        clear h3 h5
        go_enter Try.func24, Try.ntmps24
        go_wp2
        repeat (go_quiet (fail); go_wp2)
        go_ret
        exact ⟨by rw [← hr.out]; first | rfl | simp, by repeat (first | exact Qt.refl _ | apply Qt.drewN)⟩
    · have h6 : (ci != ck) = true := by simp [h5]
      have hr : Hid (decide (ci < ck) = res) := by rw [← hres.out]; show _ = _; simp [befV, h1, h2, h5]
      clear h5
      go_enter Try.func24, Try.ntmps24
      go_wp2
      repeat (go_quiet (fail); go_wp2)
      go_ret
      exact ⟨by rw [← hr.out]; first | rfl | simp, by repeat (first | exact Qt.refl _ | apply Qt.drewN)⟩
end Go.Proofs.Ythjlknomaoolaaa
