/-
  MessageDeadlines: the walk.
-/
import Derived.Test.YtjljjohoipnhhaaAwake
import Derived.Test.YtjljjohoipnhhaaOpen
namespace Go.Proofs.Ytjljjohoipnhhaa
open Go.RowKit
set_option linter.unusedVariables false

theorem u8_bounds {n : Int} (h : (Lit.int .u8 n).wf = true) : 0 ≤ n ∧ n ≤ 255 := by simpa [Lit.wf, IntKind.min, IntKind.max, IntKind.signed, IntKind.bits] using h
def ms2 (data : List Int) (d : Int) : List Msg := [⟨[1], -1, 1, 0⟩, ⟨data, d, 1, 0⟩]
theorem dl_late (data : List Int) (d t : Int) (k : Nat) (hk : k < 6) (h0 : 0 ≤ d) (h : d < t) :
    (nextW (ms2 data d) t k).length = k ∧ stOf ((nextM (nextM (ms2 data d) t k) t 2000).map Msg.st) 1 = 5 ∧ stOf ((nextM (nextM (ms2 data d) t k) t 2000).map Msg.st) 0 = 3 ∧ (nextW (nextM (ms2 data d) t k) t 2000).length = 6 - k := by
  have hd : ¬ d = -1 := by omega
  have hk' : k = 0 ∨ k = 1 ∨ k = 2 ∨ k = 3 ∨ k = 4 ∨ k = 5 := by omega
  rcases hk' with rfl | rfl | rfl | rfl | rfl | rfl <;>
    simp [ms2, nextW, nextM, wantOf, finOf, dropM, Msg.dropped, pNext, sendL, Msg.take, Msg.rest, form, stOf, hd, h]
theorem dl_soon (data : List Int) (d t : Int) (k : Nat) (hk : k < 6) (h0 : 0 ≤ d) (h : ¬ d < t) (hl : 1 ≤ data.length) (hl2 : data.length ≤ 1000) :
    (nextW (ms2 data d) t k).length = k ∧ stOf ((nextM (nextM (ms2 data d) t k) t 2000).map Msg.st) 1 = 3 ∧ (nextW (nextM (ms2 data d) t k) t 2000).length = 6 - k + 5 + data.length := by
  have hd : ¬ d = -1 := by omega
  have m1 : ∀ b, data.length + 1 + 1 + 1 + 1 + 1 ≤ b → min (data.length + 1 + 1 + 1 + 1 + 1) b = data.length + 1 + 1 + 1 + 1 + 1 := fun b hb => Nat.min_eq_left hb
  have hk' : k = 0 ∨ k = 1 ∨ k = 2 ∨ k = 3 ∨ k = 4 ∨ k = 5 := by omega
  rcases hk' with rfl | rfl | rfl | rfl | rfl | rfl
  all_goals
    simp [ms2, nextW, nextM, wantOf, finOf, dropM, Msg.dropped, pNext, sendL, Msg.take, Msg.rest, form, stOf, hd, h]
    exact ⟨by rw [if_pos (by omega)]; rfl, by omega⟩

theorem ms2_put (data : List Int) (d : Int) (h0 : 0 ≤ d) (h1 : 1 ≤ data.length) (h2 : data.length ≤ 1000) :
    putM [⟨[1], -1, 1, 0⟩] 2 data d = ms2 data d ∧ putN [⟨[1], -1, 1, 0⟩] 2 data d = 1 ∧ putE [⟨[1], -1, 1, 0⟩] 2 data d = 0 := by
  have hb : putBad data d = false := by
    unfold putBad
    rw [decide_eq_false (by omega : ¬ data.length < 1), decide_eq_false (by omega : ¬ 1000 < data.length), decide_eq_false (by omega : ¬ d < -1)]
    rfl
  have ho : openN [⟨[1], -1, 1, 0⟩] = 1 := rfl
  unfold putM putN putE
  rw [hb, ho]
  exact ⟨rfl, rfl, rfl⟩
theorem next_len (ms : List Msg) (t m : Int) : (nextM ms t m).length = ms.length := by unfold nextM finOf; rw [sendL_len, dropM_len]

set_option maxHeartbeats 8000000 in
set_option maxRecDepth 100000 in
theorem messageDeadlines_walk (W : World) (a0 : Option Addr) (c0 : Nat) (data : List Int) (s0 : Sl (Value.int .u8) W a0 data) (g0 : ∀ y ∈ data, IntOk .u8 y) (m0 : data.length ≤ maxLen) (d : Int) (w1 : IntOk .u8 d) (t : Int) (w2 : IntOk .u8 t) (bf : Int) (w3 : IntOk .u8 bf) :
    Calls Try.prog 3 #[.slice a0 data.length c0, .int .u8 d, .int .u8 t, .int .u8 bf] W fun e W' => e = .returned (.bool true) ∧ Below W.heap.size W W' := by
  have hd := u8_bounds w1; have ht := u8_bounds w2; have hbf := u8_bounds w3
  obtain ⟨hd0, hd1⟩ := hd; obtain ⟨ht0, ht1⟩ := ht; obtain ⟨hbf0, hbf1⟩ := hbf
  have HAW := Lib.hid awake_ok
  have S0 := Lib.hid s0
  clear w1 w2 w3 s0 g0
  by_cases hbad : data.length < 1 ∨ 1000 < data.length
  · have MX := Lib.hid m0
    have hc : Hid (decide ((data.length : Int) < 1) = true ∨ (decide ((data.length : Int) < 1) = false ∧ decide ((1000 : Int) < (data.length : Int)) = true)) := by
      show _ ∨ _
      simp
      omega
    unfold maxLen at m0
    clear hbad
    rcases hc.out with f1 | ⟨f1, f2⟩
    all_goals
      clear hc
      go_enter Try.func3, Try.ntmps3
      go_wp2_with fail
      refine (HAW.out W).mono ?_
      rintro e w1 ⟨rfl, hb⟩
      have B1 := Lib.hid hb; clear hb
      go_wp2_with fail
      refine (HAW.out w1).mono ?_
      rintro e w2 ⟨rfl, hb⟩
      have B2 := Lib.hid (B1.out.trans (hb.mono B1.out.size)); clear hb
      go_wp2_with fail
      go_ret
      exact ⟨rfl, B2.out⟩
  · have l1 : 1 ≤ data.length := by omega
    have l2 : data.length ≤ 1000 := by omega
    have f1 : (1 : Int) ≤ (data.length : Int) := by omega
    have f2 : (data.length : Int) ≤ 1000 := by omega
    have MX := Lib.hid m0
    clear hbad m0
    obtain ⟨p1, p2, p3⟩ := ms2_put data d hd0 l1 l2
    have P1 := Lib.hid p1; have P2 := Lib.hid p2; have P3 := Lib.hid p3
    obtain ⟨k, hk, hkk⟩ : ∃ k : Nat, bf % 6 = (k : Int) ∧ k < 6 := ⟨(bf % 6).toNat, by omega, by omega⟩
    have HK := Lib.hid hk
    clear p1 p2 p3 hk
    go_enter Try.func3, Try.ntmps3
    go_wp2_with fail
    refine (HAW.out W).mono ?_
    rintro e w1 ⟨rfl, hb⟩
    have B1 := Lib.hid hb; clear hb
    have N1 := Lib.hid (mnew_ok w1 2 (by decide) (by decide))
    go_wp2_with fail
    refine N1.out.mono ?_
    rintro e w2 ⟨rfl, hM, hB⟩
    have hs1 := B1.out.size
    have hs2 := hB.size
    have B2 := Lib.hid (B1.out.trans (hB.mono B1.out.size))
    have M2 := Lib.hid (hM.below ((Below.refl _ w2).alloc (Nat.le_refl _) (.cells #[.int .u8 1] 5)))
    have A2 : Hid (Below W.heap.size W (w2.alloc (.cells #[.int .u8 1] 5))) := B2.out.alloc B2.out.size _
    have PT := Lib.hid (mput_any _ _ _ _ _ _ M2.out (by simp) (some ⟨w2.heap.size, 0, none⟩) 1 [1] (Blk.sl (T := 5) (Blk.new w2 5 [.int .u8 1])) (by simp [maxLen]) (-1) (fun k hk e => by have := hM.lt k hk; simp at e; omega) (by simp; omega))
    clear hM hB N1
    go_wp2_with fail
    refine PT.out.mono ?_
    rintro e w3 ⟨rfl, hM, hU⟩
    have M3 : Hid (BoxM w3 w1.heap.size w1.heap.size 2 [⟨[1], -1, 1, 0⟩] (frF (fun k => k = w1.heap.size) (w2.alloc (.cells #[.int .u8 1] 5)) w3)) := hM
    have B3 := Lib.hid (bm_below (S := fun _ => False) A2.out M2.out hU (by omega) A2.out.size)
    have e1 : putN [] 2 [1] (-1) = 0 := by decide
    have e2 : putE [] 2 [1] (-1) = 0 := by decide
    rw [e1, e2]
    have hs3 := hU.size
    rw [World.size_alloc] at hs3
    clear hM hU PT e1 e2
    have PT := Lib.hid (mput_any w3 _ _ _ _ _ M3.out (by simp) a0 c0 data (S0.out.below B3.out) MX.out d (fun k hk e => by
      have h1 := (M3.out.lt k hk).1
      have h2 := S0.out.old (by intro e; rw [e] at l1; simp at l1)
      omega) (by omega))
    unfold MPut at PT
    rw [P1.out, P2.out, P3.out] at PT
    go_wp2_with fail
    refine PT.out.mono ?_
    rintro e w4 ⟨rfl, hM, hU⟩
    have M4 := Lib.hid hM
    have B4 := Lib.hid (bm_below (S := fun _ => False) B3.out M3.out hU (by omega) B3.out.size)
    have hs4 := hU.size
    clear hM hU PT
    go_upto_region 9 with (fail)
    rw [HK.out]
    have NX := Lib.hid (mnext_any w4 _ _ _ _ _ M4.out (by simp [ms2]) t (k : Int) (by omega) (by omega))
    go_wp2_with fail
    refine NX.out.mono ?_
    rintro e w5 ⟨xv, rfl, hv, hM, hU⟩
    have M5 := Lib.hid hM
    have B5 := Lib.hid (bm_below (S := fun _ => False) B4.out M4.out hU (by omega) B4.out.size)
    have hs5 := hU.size
    obtain ⟨xa, xc, rfl⟩ := hv.shape
    clear hM hU NX hv
    have NX := Lib.hid (mnext_any w5 _ _ _ _ _ M5.out (by rw [next_len]; simp [ms2]) t 2000 (by omega) (by omega))
    go_wp2_with fail
    refine NX.out.mono ?_
    rintro e w6 ⟨yv, rfl, hv, hM, hU⟩
    have M6 := Lib.hid hM
    have B6 := Lib.hid (bm_below (S := fun _ => False) B5.out M5.out hU (by omega) B5.out.size)
    obtain ⟨ya, yc, rfl⟩ := hv.shape
    clear hM hU NX hv
    have ST1 := Lib.hid (mstate_any w6 _ _ _ _ _ M6.out (by rw [next_len, next_len]; simp [ms2]) 1)
    have ST0 := Lib.hid (mstate_any w6 _ _ _ _ _ M6.out (by rw [next_len, next_len]; simp [ms2]) 0)
    by_cases hlate : d < t
    · obtain ⟨f1, f2, f3, f4⟩ := dl_late data d t k hkk hd0 hlate
      rw [f2] at ST1
      rw [f3] at ST0
      generalize (nextW (ms2 data d) t (k : Int)).length = xl at *
      generalize (nextW (nextM (ms2 data d) t (k : Int)) t 2000).length = yl at *
      subst f1
      have g2 : ((yl : Int) == 6 - (xl : Int)) = true := by simp; omega
      clear f2 f3 f4 M4 M5 M6
      go_wp2_with fail
      refine ST1.out.mono ?_
      rintro e w7 ⟨rfl, rfl⟩
      go_wp2_with fail
      refine ST0.out.mono ?_
      rintro e w8 ⟨rfl, rfl⟩
      go_wp2_with fail
      go_ret
      exact ⟨rfl, B6.out⟩
    · obtain ⟨f1, f2, f4⟩ := dl_soon data d t k hkk hd0 hlate l1 l2
      rw [f2] at ST1
      generalize (nextW (ms2 data d) t (k : Int)).length = xl at *
      generalize (nextW (nextM (ms2 data d) t (k : Int)) t 2000).length = yl at *
      subst f1
      have g2 : ((yl : Int) == 6 - (xl : Int) + 5 + (data.length : Int)) = true := by simp; omega
      clear f2 f4 M4 M5 M6
      go_wp2_with fail
      refine ST1.out.mono ?_
      rintro e w7 ⟨rfl, rfl⟩
      go_wp2_with fail
      go_ret
      exact ⟨rfl, B6.out⟩
end Go.Proofs.Ytjljjohoipnhhaa
