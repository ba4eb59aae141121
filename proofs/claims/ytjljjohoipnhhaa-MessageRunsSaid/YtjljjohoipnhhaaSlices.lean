/-
  Contracts of functions of package slices, at the element types that this program uses.
-/
import Derived.Test.YtjljjohoipnhhaaVw
namespace Go.Proofs.Ytjljjohoipnhhaa
open Go.RowKit

theorem Try.infoByte : (Try.prog.info? 5).map (fun i => (i.zero, i.size, i.bytes)) = some (some (.int .u8 0), 1, 1) := by kernel_rfl

set_option maxHeartbeats 1000000 in
theorem cloneByte_any (w : World) (a : Option Addr) (c : Nat) (xs : List Int) (hs : Sl (Value.int .u8) w a xs) (hl : xs.length ≤ 1000000) :
    Calls Try.prog 24 #[.slice a xs.length c] w fun e w' => ∃ v, e = .returned v ∧ Rw (Value.int .u8) 5 w' w.heap.size v xs ∧ Below w.heap.size w w' := by
  show Calls _ _ _ _ (RwPost (Value.int .u8) 5 w xs)
  cases a with
  | none =>
    have h0 : xs = [] := by
      match xs, hs with
      | [], _ => rfl
      | x :: l, hs => exact absurd (hs 0 x rfl).1 (by simp [okAd])
    subst h0
    have he := fun w => Lib.run_eql_slice_nil (P := Try.prog) w 22 _ none 0 c 0 0 Try.underlying22
    go_enter Try.func24, Try.ntmps24
    go_wp2
    go_ret
    exact ⟨_, rfl, Rw.nil _ _ _ _, Below.refl _ _⟩
  | some ad =>
    have he := fun w => Lib.run_eql_slice_nil (P := Try.prog) w 22 _ (some ad) xs.length c 0 0 Try.underlying22
    have hl1 := Lib.hid hl
    have HS := Lib.hid hs
    clear hs hl
    obtain ⟨i0, hi, hz0, hz1, hz2⟩ := info_parts Try.infoByte
    have HI := Lib.hid hi; have HZ0 := Lib.hid hz0; have HZ1 := Lib.hid hz1; have HZ2 := Lib.hid hz2
    clear hi hz0 hz1 hz2
    go_enter Try.func24, Try.ntmps24
    go_wp2_with (at_builtin; refine wpList_append_own _ rfl _ _ 22 rfl w.heap.size 5 i0 _ 1 1 Try.underlying22 HI.out HZ0.out HZ1.out HZ2.out rfl (by decide) _ 0 [] rfl ?c0 ad xs.length c (xs.map (Value.int .u8)) rfl ?c1 ?c2 ?c3 ?c4 ?c5 ?c6 ?_)
    case c0 => exact own_empty _ _ _
    case c1 => simp
    case c2 => exact (HS.out.below ((Below.refl _ _).alloc (Nat.le_refl _) _)).news
    case c3 => exact one_map _ (fun _ => rfl) _
    case c4 => have := hl1.out; unfold maxLen; omega
    case c5 => have := hl1.out; omega
    case c6 => simp
    intro v' w1 hown hgr hnil
    have R := Rw.of_own (f := (Value.int .u8)) (by simpa using hown)
    have B : Below w.heap.size w w1 := ((Below.refl _ _).alloc (Nat.le_refl _) _).grown hgr (by simp) (by intro k hk; simp [Value.ownBlock] at hk; omega)
    have HR := Lib.hid R
    clear hown hgr hnil R
    go_wp2
    go_ret
    exact ⟨_, rfl, HR.out, B⟩

def EqRelByte (w : World) (xs ys : List Int) (i : Value) (wr : World) : Prop := ∃ k : Nat, k ≤ xs.length ∧ i = .int .i64 k ∧ xs.take k = ys.take k ∧ Qt w wr

set_option maxHeartbeats 1000000 in
theorem equalByte_any (w : World) (a b : Option Addr) (c d : Nat) (xs ys : List Int) (hx : Sl (Value.int .u8) w a xs) (hy : Sl (Value.int .u8) w b ys) (hl : xs.length ≤ maxLen) :
    Calls Try.prog 19 #[.slice a xs.length c, .slice b ys.length d] w fun e w' => e = .returned (.bool (decide (xs = ys))) ∧ Qt w w' := by
  unfold maxLen at hl
  generalize hR : decide (xs = ys) = r
  have HR := Lib.hid hR; clear hR
  by_cases hlen : xs.length = ys.length
  · have HX := Lib.hid hx; have HY := Lib.hid hy; clear hx hy
    have hne : ((xs.length : Int) != (ys.length : Int)) = false := by simp [hlen]
    have hlt : ys.length ≤ xs.length := by omega
    have HL := Lib.hid hlen; clear hlen
    generalize hn : xs.length = n at *
    generalize hm : ys.length = m at *
    have HN := Lib.hid hn; have HM := Lib.hid hm; clear hn hm
    go_enter Try.func19, Try.ntmps19
    go_wp2
    go_loopw [13] (fun i wr => EqRelByte w xs ys i wr) (fun i _ => n - (intOf i).toNat)
    case atStart => exact ⟨0, Nat.zero_le _, rfl, rfl, Qt.refl _⟩
    case round =>
      obtain ⟨k, hk, rfl, ht, hq⟩ := hrel
      have HT := Lib.hid ht
      clear ht
      have HQ := Lib.hid hq
      have hk' : k ≤ n := by rw [HN.out] at hk; exact hk
      clear hk
      by_cases hkn : k < n
      · have hkm : k < m := by have := HL.out; omega
        obtain ⟨x, ex, okx, cx⟩ := (HX.out.qt hq).get (k := k) (by rw [HN.out]; exact hkn)
        obtain ⟨y, ey, oky, cy⟩ := (HY.out.qt hq).get (k := k) (by rw [HM.out]; exact hkm)
        have hki : (k : Int) < (n : Int) := by omega
        have hmi : (k : Int) < (m : Int) := by omega
        clear hq
        by_cases hxy : x = y
        · have hb : (x != y) = false := by simp [hxy]
          have HT' : Hid (xs.take (k + 1) = ys.take (k + 1)) := by
            show _ = _
            rw [List.take_add_one, List.take_add_one, HT.out, ex.out, ey.out, hxy]
          have HXY := Lib.hid hxy; clear hxy
          go_wp2
          go_quiet (fail)
          go_wp2
          go_roundw
          case rel => exact ⟨k + 1, by rw [HN.out]; omega, by go_num, HT'.out, by exact HQ.out.drewN _⟩
          case measure => simp [intOf]; omega
        · have hb : (x != y) = true := by simp [hxy]
          have hr : Hid (false = r) := by
            show _ = _
            rw [← HR.out]
            symm
            simp only [decide_eq_false_iff_not]
            intro e
            rw [e] at ex
            exact hxy (Option.some.inj (ex.out.symm.trans ey.out))
          clear hxy
          go_wp2
          go_quiet (fail)
          go_wp2
          go_ret
          exact ⟨ret_bool hr.out, by exact HQ.out.drewN _⟩
      · have hr : Hid (true = r) := by
          show _ = _
          rw [← HR.out]
          symm
          simp only [decide_eq_true_eq]
          have h1 := HT.out
          have e1 := HN.out; have e2 := HM.out; have e3 := HL.out
          rwa [List.take_of_length_le (by omega), List.take_of_length_le (by omega)] at h1
        clear hq
        go_wp2
        go_ret
        exact ⟨ret_bool hr.out, HQ.out⟩
  · have hne : ((xs.length : Int) != (ys.length : Int)) = true := by simp; omega
    have hr : Hid (false = r) := by
      show _ = _
      rw [← HR.out]
      symm
      simp only [decide_eq_false_iff_not]
      intro e
      exact hlen (by rw [e])
    clear hx hy hlen
    go_enter Try.func19, Try.ntmps19
    go_wp2
    go_ret
    exact ⟨ret_bool hr.out, Qt.refl _⟩

end Go.Proofs.Ytjljjohoipnhhaa