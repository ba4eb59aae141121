/-
  The walk of the law CrossbarMaximal.
-/
import Derived.Test.YtldgpdgoccccpaaOpenB
import Derived.Test.YtldgpdgoccccpaaBarMax
namespace Go.Proofs.Ytldgpdgoccccpaa
open Go.RowKit
set_option linter.unusedVariables false

def MtPost (rs : List (RowOf Bool)) (ms : List Int) (w : World) (e : Ending) (w' : World) : Prop :=
  ∃ b : Bool, e = .returned (.bool b) ∧ (b = true ↔ ms.length = rs.length ∧ MatI (reqF rs) rs.length (msF ms) rs.length) ∧ Qt w w'
def MtRel (rs : List (RowOf Bool)) (ms : List Int) (n : Nat) (W : World) (i : Value) (w : World) : Prop := ∃ k : Nat, k ≤ n ∧ i = .int .i64 k ∧ MatI (reqF rs) n (msF ms) k ∧ Qt W w
def MtRel2 (ms : List Int) (x : Int) (n : Nat) (W : World) (i : Value) (w : World) : Prop := ∃ k : Nat, k ≤ n ∧ i = .int .i64 k ∧ (∀ j < k, ¬ (0 ≤ x ∧ x = msF ms j)) ∧ Qt W w
theorem MatI.stepx {req : Nat → Nat → Bool} {n i : Nat} {m : Nat → Int} (h : MatI req n m i) (hx : m i = -1 ∨ ∃ k, k < n ∧ m i = (k : Int) ∧ req i k = true) (hd : ∀ j < i, ¬ (0 ≤ m i ∧ m i = m j)) : MatI req n m (i + 1) :=
  ⟨fun j hj => by
    by_cases ej : j = i
    · subst ej; exact hx
    · exact h.v j (by omega), fun j hj q hq k h1 h2 => by
    by_cases ej : j = i
    · by_cases eq : q = i
      · omega
      · subst ej; exact absurd ⟨by omega, by omega⟩ (hd q (by omega))
    · by_cases eq : q = i
      · subst eq; exact absurd ⟨by omega, by omega⟩ (hd j (by omega))
      · exact h.inj j (by omega) q (by omega) k h1 h2⟩
theorem MatI.mono {req : Nat → Nat → Bool} {n i j : Nat} {m : Nat → Int} (h : MatI req n m j) (hij : i ≤ j) : MatI req n m i := ⟨fun x hx => h.v x (by omega), fun x hx y hy => h.inj x (by omega) y (by omega)⟩

set_option maxHeartbeats 8000000 in
set_option maxRecDepth 100000 in
theorem matching_any (W : World) (a0 b0 : Option Addr) (c0 d0 : Nat) (rs : List (RowOf Bool)) (ms : List Int) (h : Req W a0 rs) (hs : SlI W b0 ms) (hfm : fmB rs = true) (hms : ms.length ≤ maxLen) :
    Calls Try.prog 26 #[.slice a0 rs.length c0, .slice b0 ms.length d0] W (MtPost rs ms W) := by
  unfold maxLen at hms
  obtain ⟨h8, hrow⟩ := fmB_true hfm
  have HROW := Lib.hid hrow
  by_cases hlen : ms.length = rs.length
  rotate_left
  · have hne : ((ms.length : Int) != (rs.length : Int)) = true := by simp; omega
    have HL := Lib.hid hlen
    clear h hs hfm hrow hlen
    go_enter Try.func26, Try.ntmps26
    go_wp2_with fail
    go_ret
    exact ⟨false, rfl, ⟨fun h => absurd h (by simp), fun h => absurd h.1 HL.out⟩, Qt.refl _⟩
  · have hne : ((ms.length : Int) != (rs.length : Int)) = false := by simp; omega
    have H := Lib.hid h; have S := Lib.hid hs; have HLEN := Lib.hid hlen
    clear h hs hfm hrow
    generalize hn : rs.length = n at *
    generalize hnm : ms.length = nm at *
    have hnm1 : nm ≤ n := by omega
    have hnm2 : n ≤ nm := by omega
    have HN := Lib.hid hn; have HNM := Lib.hid hnm
    have NOK : Hid (∀ (P : Prop), (MatI (reqF rs) n (msF ms) n → P) → ¬ P → ((false : Bool) = true ↔ ms.length = rs.length ∧ MatI (reqF rs) rs.length (msF ms) rs.length)) := fun P h1 h2 => ⟨fun h => absurd h (by simp), fun h => absurd (h1 (by have := h.2; rw [hn] at this; exact this)) h2⟩
    clear hn hnm hlen
    go_enter Try.func26, Try.ntmps26
    go_wp2_with fail
    go_loopw [6] (fun i wr => MtRel rs ms n W i wr) (fun i _ => n - (intOf i).toNat)
    case atStart => exact ⟨0, Nat.zero_le _, rfl, ⟨fun j hj => by omega, fun j hj => by omega⟩, Qt.refl _⟩
    case round =>
      obtain ⟨i, hi, rfl, hmat, hq⟩ := hrel
      have MAT := Lib.hid hmat; have Q := Lib.hid hq
      clear hmat hq
      by_cases hlt : i < n
      · obtain ⟨x, ex, okx, cx⟩ := (S.out.qt Q.out).get (k := i) (by rw [HNM.out]; omega)
        have hex := msF_get ex.out
        have EX := Lib.hid hex
        have iln : (i : Int) < (nm : Int) := by omega
        clear hex
        by_cases x2 : x < -1
        · have NO : Hid _ := NOK.out (-1 ≤ x) (fun h => by
            have e := EX.out
            rcases h.v i hlt with h1 | ⟨k, _, h1, _⟩ <;> rw [e] at h1 <;> omega) (by omega)
          go_wp2_with fail
          go_quiet (fail)
          go_wp2_with fail
          go_ret
          exact ⟨false, rfl, NO.out, Q.out.drewN _⟩
        · have x2d : decide (x < -1) = false := by simpa using x2
          by_cases x3 : (n : Int) ≤ x
          · have NO : Hid _ := NOK.out (x < n) (fun h => by
              have e := EX.out
              rcases h.v i hlt with h1 | ⟨k, h0, h1, _⟩ <;> rw [e] at h1 <;> omega) (by omega)
            go_wp2_with fail
            go_quiet (fail)
            go_wp2_with fail
            go_ret
            exact ⟨false, rfl, NO.out, Q.out.drewN _⟩
          · have x3d : decide ((n : Int) ≤ x) = false := by simpa using x3
            have TAIL : Hid ((x = -1 ∨ ∃ k, k < n ∧ x = (k : Int) ∧ reqF rs i k = true) → (∀ j < i, ¬ (0 ≤ x ∧ x = msF ms j)) → MatI (reqF rs) n (msF ms) (i + 1)) := fun h1 h2 => MAT.out.stepx (by rw [EX.out]; exact h1) (by rw [EX.out]; exact h2)
            by_cases x4 : x < 0
            · have x4d : decide (0 ≤ x) = false := by simp; omega
              have MAT2 : Hid (MatI (reqF rs) n (msF ms) (i + 1)) := TAIL.out (.inl (by omega)) (fun j hj h => by omega)
              go_wp2_with fail
              go_quiet (fail)
              rename_i nq
              go_wp2_with fail
              have Q2 : Hid (Qt W (wr.drewN nq)) := Q.out.drewN _
              generalize wr.drewN nq = w2 at *
              clear cx Q
              go_loopw [7] (fun k w => MtRel2 ms x i W k w) (fun k _ => i - (intOf k).toNat)
              case atStart => exact ⟨0, Nat.zero_le _, rfl, fun j hj => by omega, Q2.out⟩
              case round =>
                clear Q2
                obtain ⟨k, hk, rfl, hg, hq⟩ := hrel
                have Q3 := Lib.hid hq
                clear hg hq
                by_cases hkt : k < i
                · obtain ⟨y, ey, oky, cy⟩ := (S.out.qt Q3.out).get (k := i) (by rw [HNM.out]; omega)
                  have hyx : y = x := by
                    have := EX.out; rw [msF_get ey.out] at this; exact this
                  subst hyx
                  go_wp2_with fail
                  go_quiet (fail)
                  go_wp2_with fail
                  go_roundw
                  case rel => exact ⟨k + 1, by omega, by go_num, fun j _ h => by omega, Q3.out.drewN _⟩
                  case measure => simp [intOf]; omega
                · obtain rfl : i = k := by omega
                  go_wp2_with fail
                  go_roundw
                  case rel => exact ⟨i + 1, by omega, by go_num, MAT2.out, Q3.out⟩
                  case measure => simp [intOf]; omega
            · obtain ⟨c, rfl⟩ := Int.eq_ofNat_of_zero_le (show 0 ≤ x by omega)
              have hc : c < n := by omega
              have cn : (c : Int) < (n : Int) := by omega
              obtain ⟨r, er, o1, c1, o2, c2⟩ := (H.out.qt Q.out).get (n := n) HN.out HROW.out hlt hc
              cases hr : reqF rs i c with
              | false =>
                rw [hr] at c2
                have NO : Hid _ := NOK.out (reqF rs i c = true) (fun h => by
                  have e := EX.out
                  rcases h.v i hlt with h1 | ⟨k, h0, h1, h2⟩ <;> rw [e] at h1
                  · omega
                  · (obtain rfl : c = k := by omega); exact h2) (by simp [hr])
                clear hr er
                go_wp2_with fail
                go_quiet (fail)
                go_wp2_with fail
                go_ret
                exact ⟨false, rfl, NO.out, Q.out.drewN _⟩
              | true =>
                rw [hr] at c2
                have MAT2 : Hid ((∀ j < i, ¬ (0 ≤ (c : Int) ∧ (c : Int) = msF ms j)) → MatI (reqF rs) n (msF ms) (i + 1)) := TAIL.out (.inr ⟨c, hc, rfl, hr⟩)
                clear hr er
                go_wp2_with fail
                go_quiet (fail)
                rename_i nq
                go_wp2_with fail
                have Q2 : Hid (Qt W (wr.drewN nq)) := Q.out.drewN _
                generalize wr.drewN nq = w2 at *
                clear cx Q c1 c2
                go_loopw [7] (fun k w => MtRel2 ms (c : Int) i W k w) (fun k _ => i - (intOf k).toNat)
                case atStart => exact ⟨0, Nat.zero_le _, rfl, fun j hj => by omega, Q2.out⟩
                case round =>
                  clear Q2
                  obtain ⟨k, hk, rfl, hg, hq⟩ := hrel
                  have Q3 := Lib.hid hq; have G := Lib.hid hg
                  clear hg hq
                  by_cases hkt : k < i
                  · obtain ⟨x, ex', okx', cx⟩ := (S.out.qt Q3.out).get (k := i) (by rw [HNM.out]; omega)
                    have hxc : x = (c : Int) := by
                      have := EX.out; rw [msF_get ex'.out] at this; exact this
                    subst hxc
                    obtain ⟨y, ey, oky, cy⟩ := (S.out.qt Q3.out).get (k := k) (by rw [HNM.out]; omega)
                    have kln : (k : Int) < (nm : Int) := by omega
                    have EY := Lib.hid (msF_get ey.out)
                    have cge : (0 : Int) ≤ (c : Int) := by omega
                    cases hcy : ((c : Int) == y) with
                    | true =>
                      have NO : Hid _ := NOK.out False (fun h => by
                        have e1 := EX.out
                        have e2 := EY.out
                        have e3 : (c : Int) = y := by simpa using hcy
                        have := h.inj i hlt k (by omega) c e1 (by rw [e2, e3])
                        omega) id
                      go_wp2_with fail
                      go_quiet (fail)
                      go_wp2_with fail
                      go_ret
                      exact ⟨false, rfl, NO.out, Q3.out.drewN _⟩
                    | false =>
                      have NX : Hid (∀ j < k + 1, ¬ (0 ≤ (c : Int) ∧ (c : Int) = msF ms j)) := fun j hj => by
                        by_cases e : j = k
                        · subst e; rw [EY.out]; rintro ⟨_, h⟩; rw [h] at hcy; simp at hcy
                        · exact G.out j (by omega)
                      go_wp2_with fail
                      go_quiet (fail)
                      go_wp2_with fail
                      go_roundw
                      case rel => exact ⟨k + 1, by omega, by go_num, NX.out, Q3.out.drewN _⟩
                      case measure => simp [intOf]; omega
                  · obtain rfl : i = k := by omega
                    have M2 := Lib.hid (MAT2.out G.out)
                    go_wp2_with fail
                    go_roundw
                    case rel => exact ⟨i + 1, by omega, by go_num, M2.out, Q3.out⟩
                    case measure => simp [intOf]; omega
      · obtain rfl : n = i := by omega
        have YES : Hid (ms.length = rs.length ∧ MatI (reqF rs) rs.length (msF ms) rs.length) := ⟨by rw [HN.out, HNM.out]; omega, by rw [HN.out]; exact MAT.out⟩
        go_wp2_with fail
        go_ret
        exact ⟨true, rfl, ⟨fun _ => YES.out, fun _ => rfl⟩, Q.out⟩
end Go.Proofs.Ytldgpdgoccccpaa
