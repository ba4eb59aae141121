/-
  The walk of the law ArbiterRanks.
-/
import Derived.Test.YthjlknomaoolaaaOpen
import Derived.Test.YthjlknomaoolaaaAwake
import Derived.Test.YthjlknomaoolaaaRefRank
namespace Go.Proofs.Ythjlknomaoolaaa
open Go.RowKit
set_option linter.unusedVariables false

set_option maxHeartbeats 400000 in
theorem ranked_bad (w : World) (ac ar aa : Option Addr) (nc nr na cc cr ca : Nat) (p : Int) (h : nc ≠ nr ∨ na ≠ nr) :
    Calls Try.prog 12 #[.slice ac nc cc, .slice ar nr cr, .slice aa na ca, .int .i64 p] w fun e w' => e = .returned (.tuple #[.int .i64 (-1), .bool false]) ∧ Below w.heap.size w w' := by
  have b : Below w.heap.size w (((w.alloc (.cells #[.slice ac nc cc] 22)).alloc (.cells #[.slice aa na ca] 22)).alloc (.cells #[.int .i64 p] 3)) :=
      (((Below.refl _ _).alloc (Nat.le_refl _) _).alloc (by simp) _).alloc (by simp; omega) _
  by_cases h1 : nc = nr
  · subst h1
    have h2 : ((na : Int) != (nc : Int)) = true := by rw [bne_iff_ne]; omega
    clear h
    go_enter Try.func12, Try.ntmps12
    go_wp2
    go_ret2
    exact ⟨rfl, b⟩
  · have h2 : ((nc : Int) != (nr : Int)) = true := by rw [bne_iff_ne]; omega
    clear h h1
    go_enter Try.func12, Try.ntmps12
    go_wp2
    go_ret2
    exact ⟨rfl, b⟩

set_option maxHeartbeats 1000000 in
theorem arbiterRanks_walk (W : World) (a0 : Option Addr) (c0 : Nat) (cs : List Int) (s0 : SlI W a0 cs) (_ : ∀ y ∈ cs, IntOk .i64 y) (m0 : cs.length ≤ maxLen)
    (a1 : Option Addr) (c1 : Nat) (rs : List Bool) (s1 : SlB W a1 rs) (_ : ∀ y ∈ rs, True) (m1 : rs.length ≤ maxLen)
    (a2 : Option Addr) (c2 : Nat) (ages : List Int) (s2 : SlI W a2 ages) (_ : ∀ y ∈ ages, IntOk .i64 y) (m2 : ages.length ≤ maxLen) (p : Int) (_ : (Lit.int .i64 p).wf = true) :
    Calls Try.prog 3 #[.slice a0 cs.length c0, .slice a1 rs.length c1, .slice a2 ages.length c2, .int .i64 p] W fun e W' => e = .returned (.bool true) ∧ Below W.heap.size W W' := by
  have AW := awake_ok W
  have HAW := Lib.hid AW; clear AW m0 m1 m2
  by_cases g0 : (70 : Int) < cs.length
  · clear s0 s1 s2
    go_enter Try.func3, Try.ntmps3
    go_wp2_with (go_at_call 11; refine HAW.out.mono ?_; rintro e w1 ⟨rfl, hb⟩)
    go_ret
    exact ⟨rfl, hb⟩
  by_cases g1 : (70 : Int) < rs.length
  · clear s0 s1 s2
    go_enter Try.func3, Try.ntmps3
    go_wp2_with (go_at_call 11; refine HAW.out.mono ?_; rintro e w1 ⟨rfl, hb⟩)
    go_ret
    exact ⟨rfl, hb⟩
  by_cases g2 : (70 : Int) < ages.length
  · clear s0 s1 s2
    go_enter Try.func3, Try.ntmps3
    go_wp2_with (go_at_call 11; refine HAW.out.mono ?_; rintro e w1 ⟨rfl, hb⟩)
    go_ret
    exact ⟨rfl, hb⟩
  by_cases hb : cs.length = rs.length ∧ ages.length = rs.length
  · obtain ⟨l0, l2⟩ := hb
    have L0 := Lib.hid l0; have L2 := Lib.hid l2
    have S0 := Lib.hid s0; have S1 := Lib.hid s1; have S2 := Lib.hid s2; clear s0 s1 s2
    rw [l0] at g0
    rw [l2] at g2
    rw [l0, l2]
    generalize hn : rs.length = n at *
    have HN := Lib.hid hn
    clear hn l0 l2
    have hne : ((n : Int) != (n : Int)) = false := by simp
    generalize hr : rk cs rs ages p n = r
    have HR := Lib.hid hr; clear hr
    go_enter Try.func3, Try.ntmps3
    go_wp2_with fail
    refine HAW.out.mono ?_
    rintro e w1 ⟨rfl, hb⟩
    have B1 := Lib.hid hb; clear hb
    go_wp2_with fail
    refine (ranked_any w1 a0 a1 a2 n c0 c1 c2 p cs rs ages (by omega) L0.out HN.out L2.out (S0.out.below B1.out) (S1.out.below B1.out) (S2.out.below B1.out)).mono ?_
    rintro e w2 ⟨rfl, hb⟩
    have B2 := Lib.hid (B1.out.trans (hb.mono B1.out.size)); clear hb
    rw [HR.out]
    go_wp2_with fail
    refine (refranked_any w2 a0 a1 a2 n c0 c1 c2 p cs rs ages (by omega) L0.out HN.out L2.out (S0.out.below B2.out) (S1.out.below B2.out) (S2.out.below B2.out)).mono ?_
    rintro e w3 ⟨rfl, hq⟩
    have B3 := Lib.hid (B2.out.trans (hq.below _)); clear hq
    rw [HR.out]
    go_wp2_with fail
    go_ret
    exact ⟨rfl, B3.out⟩
  · have hb' : cs.length ≠ rs.length ∨ ages.length ≠ rs.length := by omega
    clear hb s0 s1 s2
    have RB := fun w => ranked_bad w a0 a1 a2 cs.length rs.length ages.length c0 c1 c2 p hb'
    have HRB := Lib.hid RB; clear RB
    have hne : ((cs.length : Int) != (rs.length : Int)) = true ∨ (((cs.length : Int) != (rs.length : Int)) = false ∧ ((ages.length : Int) != (rs.length : Int)) = true) := by
      by_cases e : cs.length = rs.length
      · right; refine ⟨by simp [e], by rw [bne_iff_ne]; omega⟩
      · left; rw [bne_iff_ne]; omega
    clear hb'
    rcases hne with h | ⟨h, h'⟩
    all_goals
      go_enter Try.func3, Try.ntmps3
      go_wp2_with fail
      refine HAW.out.mono ?_
      rintro e w1 ⟨rfl, hb⟩
      have B1 := Lib.hid hb; clear hb
      go_wp2_with fail
      refine (HRB.out w1).mono ?_
      rintro e w2 ⟨rfl, hb⟩
      have B2 := Lib.hid (B1.out.trans (hb.mono B1.out.size)); clear hb
      go_wp2_with fail
      go_ret
      exact ⟨rfl, B2.out⟩
end Go.Proofs.Ythjlknomaoolaaa
