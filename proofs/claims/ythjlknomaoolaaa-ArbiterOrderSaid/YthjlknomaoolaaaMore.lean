/-
  Contracts of the other methods of arbiter.Arbiter, of the reference's Pick, and of the law's helper great.
-/
import Derived.Test.YthjlknomaoolaaaPick
import Derived.Test.YthjlknomaoolaaaOpen
namespace Go.Proofs.Ythjlknomaoolaaa
open Go.RowKit

set_option maxHeartbeats 400000 in
theorem next_any (w : World) (b c p : Nat) (ages : List Int) (hA : ArbAt 55 w b c p ages) :
    Calls Try.prog 20 #[.pointer (some ⟨b, 0, none⟩)] w fun e w' => e = .returned (.int .i64 p) ∧ w = w' := by
  have q0 := hA.hb.cell (i := 0) rfl
  clear hA
  go_enter Try.func20, Try.ntmps20
  go_wp2
  go_ret
  exact ⟨rfl, rfl⟩

set_option maxHeartbeats 400000 in
theorem next_nil (w : World) : Calls Try.prog 20 #[.pointer none] w fun e w' => e = .returned (.int .i64 0) ∧ w' = w := by
  go_enter Try.func20, Try.ntmps20
  go_wp2
  go_ret
  exact ⟨rfl, rfl⟩

set_option maxHeartbeats 400000 in
theorem ages_any (w : World) (b c p : Nat) (ages : List Int) (hA : ArbAt 55 w b c p ages) (hl : ages.length ≤ 1000) :
    Calls Try.prog 19 #[.pointer (some ⟨b, 0, none⟩)] w (RwPost (.int .i64) 3 w ages) := by
  have q1 := hA.hb.cell (i := 1) rfl
  have C := cloneInt_any w (some ⟨c, 0, none⟩) ages.length ages hA.hc.sl (by omega)
  have HC := Lib.hid C; clear C hA
  go_enter Try.func19, Try.ntmps19
  go_wp2_with fail
  refine HC.out.mono ?_
  rintro e w1 ⟨v, rfl, h⟩
  have H := Lib.hid h; clear h
  go_wp2_with fail
  go_ret
  exact ⟨v, rfl, H.out⟩

set_option maxHeartbeats 400000 in
theorem ages_nil (w : World) : Calls Try.prog 19 #[.pointer none] w fun e w' => e = .returned (.slice none 0 0) ∧ w' = w := by
  go_enter Try.func19, Try.ntmps19
  go_wp2
  go_ret
  exact ⟨rfl, rfl⟩

set_option maxHeartbeats 400000 in
theorem pick_nil (w : World) (ar : Option Addr) (n cr : Nat) : Calls Try.prog 16 #[.pointer none, .slice ar n cr] w fun e w' => e = .returned (.tuple #[.int .i64 (-1), .bool false]) ∧ w' = w := by
  go_enter Try.func16, Try.ntmps16
  go_wp2
  go_ret2
  exact ⟨rfl, rfl⟩

set_option maxHeartbeats 400000 in
theorem pick_bad (w : World) (ar : Option Addr) (b c p n cr : Nat) (ages : List Int) (hA : ArbAt 55 w b c p ages) (h0 : 0 < ages.length) (hn : n ≠ ages.length) :
    Calls Try.prog 16 #[.pointer (some ⟨b, 0, none⟩), .slice ar n cr] w fun e w' => e = .returned (.tuple #[.int .i64 (-1), .bool false]) ∧ w' = w := by
  have q1 := hA.hb.cell (i := 1) rfl
  have h1 : ((ages.length : Int) == 0) = false := by simp; intro e; simp [e] at h0
  have h2 : ((n : Int) != (ages.length : Int)) = true := by rw [bne_iff_ne]; omega
  clear hA h0 hn
  go_enter Try.func16, Try.ntmps16
  go_wp2
  go_ret2
  exact ⟨rfl, rfl⟩

/-- The rows of requests that are within the limits. -/
def smallRows (l : List (RowOf Bool)) : Prop := (∀ r ∈ l, r.xs.length ≤ 70) ∧ l.length ≤ 100

def GreatPost (w : World) (l : List (RowOf Bool)) (e : Ending) (w' : World) : Prop := ∃ r : Bool, e = .returned (.bool r) ∧ (r = false → smallRows l) ∧ w' = w

set_option maxHeartbeats 400000 in
theorem great_any (w : World) (a : Option Addr) (c : Nat) (l : List (RowOf Bool)) (hs : Sl RowOf.val w a l) (hl : l.length ≤ maxLen) :
    Calls Try.prog 14 #[.slice a l.length c] w (GreatPost w l) := by
  have HS := Lib.hid hs; clear hs
  unfold maxLen at hl
  generalize hn : l.length = n at *
  have HN := Lib.hid hn; clear hn
  go_enter Try.func14, Try.ntmps14
  go_wp2
  go_loop [7] (fun i => ∃ k : Nat, k ≤ n ∧ i = .int .i64 k ∧ Hid (∀ r ∈ l.take k, r.xs.length ≤ 70)) (fun i => n - (intOf i).toNat)
  case atStart => exact ⟨0, Nat.zero_le _, rfl, by show ∀ r ∈ _, _; simp⟩
  case round =>
    obtain ⟨k, hk, rfl, ht⟩ := hrel
    by_cases hkn : k < n
    · obtain ⟨r, er, okr, cr⟩ := HS.out.get (k := k) (by rw [HN.out]; exact hkn)
      unfold RowOf.val at cr
      by_cases h70 : (70 : Int) < r.xs.length
      · go_wp2
        go_ret
        exact ⟨true, rfl, by simp, rfl⟩
      · have HT' : Hid (∀ r ∈ l.take (k + 1), r.xs.length ≤ 70) := by
          show ∀ r ∈ _, _
          rw [List.take_add_one, er.out]
          simp only [Option.toList_some, List.mem_append, List.mem_singleton]
          rintro r' (h | rfl)
          · exact ht.out r' h
          · omega
        go_wp2
        go_round
        case rel => exact ⟨k + 1, by omega, by go_num, HT'⟩
        case measure => simp [intOf]; omega
    · obtain rfl : k = n := by omega
      go_wp2
      go_ret
      refine ⟨_, rfl, fun h => ⟨?_, ?_⟩, rfl⟩
      · have h1 := ht.out
        have e1 := HN.out
        rwa [List.take_of_length_le (by omega)] at h1
      · have e1 := HN.out
        have h2 : ¬ ((100 : Int) < (k : Int)) := by simpa using h
        omega

set_option maxHeartbeats 1000000 in
set_option maxRecDepth 100000 in
theorem refpick_any (w : World) (ar : Option Addr) (b c p n cr : Nat) (ages : List Int) (rs : List Bool) (hA : ArbAt 46 w b c p ages) (hs : SlB w ar rs) (hp : p < n) (hn1 : 1 ≤ n) (hn : n ≤ 64)
    (l1 : ages.length = n) (l2 : rs.length = n) (hag : ∀ a ∈ ages, 0 ≤ a ∧ a ≤ 1073741824) (hd : (ar.getD default).block ≠ b ∧ (ar.getD default).block ≠ c) :
    Calls Try.prog 21 #[.pointer (some ⟨b, 0, none⟩), .slice ar n cr] w fun e w' =>
      e = .returned (.int .i64 (pkf n p rs n)) ∧
      PkMem 46 w ar b c (nextP p n (pkf n p rs n)) (ag rs (pkf n p rs n) ages n) rs w' := by
  have L1 := Lib.hid l1; have L2 := Lib.hid l2; have HS := Lib.hid hs; clear l2 hs
  have HA := Lib.hid hA
  have q0 := hA.hb.cell (i := 0) rfl
  have q1 := hA.hb.cell (i := 1) rfl
  rw [l1] at q1
  clear l1 hA
  have hch := pkf_range n p rs (by omega) n
  generalize hCH : pkf n p rs n = ch at hch
  have HCH := Lib.hid hCH; have HR := Lib.hid hch; clear hCH hch
  go_enter Try.func21, Try.ntmps21
  go_wp2_with fail
  go_loop [6, 7] (fun ch i => ∃ j : Nat, j ≤ n ∧ i = .int .i64 ((j : Int) - 1) ∧ ch = .int .i64 (pkf n p rs (n - j))) (fun _ i => (intOf i + 1).toNat)
  case atStart => exact ⟨n, Nat.le_refl _, rfl, by rw [Nat.sub_self]; rfl⟩
  case round =>
    obtain ⟨j, hj, rfl, rfl⟩ := hrel
    by_cases h0 : j = 0
    · subst h0
      rw [show n - 0 = n from rfl, HCH.out]
      have M0 : Hid (PkMem 46 w ar b c p ages rs w) := ⟨HA.out, HS.out, Upd.refl _ _, rfl⟩
      go_wp2_with fail
      go_loopw [9] (fun i wr => PkRel 46 w ar b c p n ages rs ch i wr) (fun i _ => n - (intOf i).toNat)
      case atStart => exact ⟨0, Nat.zero_le _, rfl, M0.out⟩
      case round =>
        obtain ⟨k, hk, rfl, hm⟩ := hrel
        have r0 := hm.1.hb.cell (i := 0) rfl
        have r1 := hm.1.hb.cell (i := 1) rfl
        rw [ag_len, L1.out] at r1
        have HM := Lib.hid hm; clear hm
        by_cases hlt : k < n
        · obtain ⟨bb, hb, okb, cb⟩ := HM.out.2.1.get (k := k) (by rw [L2.out]; exact hlt)
          have hka : k < ages.length := by rw [L1.out]; exact hlt
          have hga : (ag rs ch ages k)[k]? = some ages[k] := by rw [ag_get]; simp [hka]
          have rk := HM.out.1.hc.cell (i := k) (v := .int .i64 ages[k]) (by simp [hga])
          have fk := HM.out.1.hc.free k
          have hbd := hag ages[k] (by simp)
          have hst : Hid (ag rs ch ages (k + 1) = (ag rs ch ages k).set k (agv bb k ch ages[k])) := by
            show _ = _
            rw [ag]
            simp only [List.getD_eq_getElem?_getD, hb.out, Option.getD_some]
            simp [hka]
          generalize ages[k] = a at *
          clear hga
          cases bb with
          | false =>
            go_wp2_with fail
            go_roundw
            case rel => exact ⟨k + 1, by omega, by go_num, by rw [hst.out]; exact HM.out.store hd.2 k 0⟩
            case measure => simp [intOf]; omega
          | true =>
            by_cases hkc : (k : Int) = ch
            · have hkb : ((k : Int) != ch) = false := by simp [hkc]
              have hke : ((k : Int) == ch) = true := by simp [hkc]
              have HK := Lib.hid hkc; clear hkc
              go_wp2_with fail
              go_roundw
              case rel => exact ⟨k + 1, by omega, by go_num, by rw [hst.out]; simp only [agv, hkb]; exact HM.out.store hd.2 k 0⟩
              case measure => simp [intOf]; omega
            · have hkb : ((k : Int) != ch) = true := by simp [hkc]
              have hke : ((k : Int) == ch) = false := by simp [hkc]
              have HK := Lib.hid hkc; clear hkc
              go_wp2_with fail
              go_region
              go_wp2_with fail
              go_roundw
              case rel => exact ⟨k + 1, by omega, by go_num, by rw [hst.out]; exact ((HM.out.store hd.2 k (agv true k ch a)).drew : _) |> fun h => by simpa only [agv, hkb, Bool.and_self, if_true] using h⟩
              case measure => simp [intOf]; omega
        · obtain rfl : k = n := by omega
          rcases HR.out with hch | ⟨hch0, hch1⟩
          · subst hch
            go_wp2_with fail
            go_ret
            exact ⟨rfl, HM.out⟩
          · obtain ⟨m, rfl⟩ := Int.eq_ofNat_of_zero_le hch0
            have hq : Hid (((((m : Int) + 1) % (k : Int)).toNat) = nextP p k m) := by show _ = _; unfold nextP; rw [if_neg (by omega)]
            have f0 := HM.out.1.hb.free 0
            obtain ⟨q, hq1⟩ : ∃ q : Nat, ((m : Int) + 1) % (k : Int) = q := ⟨_, (Int.toNat_of_nonneg (Int.emod_nonneg _ (by omega))).symm⟩
            go_wp2_with fail
            go_ret
            exact ⟨rfl, by rw [← hq.out, hq1]; exact HM.out.point hd.1 q⟩
    · obtain ⟨j', rfl⟩ : ∃ j', j = j' + 1 := ⟨j - 1, by omega⟩
      rw [show (((j' + 1 : Nat) : Int) - 1) = (j' : Int) from by omega]
      obtain ⟨bb, hb, okb, cb⟩ := HS.out.get (k := (p + j') % n) (by rw [L2.out]; exact Nat.mod_lt _ (by omega))
      have hlm := Nat.mod_lt (p + j') (show 0 < n by omega)
      have hst : Hid (pkf n p rs (n - j') = if bb then (((p + j') % n : Nat) : Int) else pkf n p rs (n - (j' + 1))) := by
        show _ = _
        have e1 : n - j' = (n - (j' + 1)) + 1 := by omega
        have e2 : n - (n - (j' + 1) + 1) = j' := by omega
        rw [e1, pkf, e2]
        simp only [List.getD_eq_getElem?_getD, hb.out, Option.getD_some]
      generalize hM : (p + j') % n = m at *
      have HM := Lib.hid hM; clear hM
      have hmm : (((p : Int) + (j' : Int)) % (n : Int)) = (m : Int) := by rw [← HM.out]; simp
      cases bb with
      | true =>
        go_wp2_with fail
        go_round
        case rel => exact ⟨j', by omega, rfl, by rw [hst.out]; exact congrArg (Value.int .i64) hmm⟩
        case measure => simp [intOf]
      | false =>
        go_wp2_with fail
        go_round
        case rel => exact ⟨j', by omega, rfl, by rw [hst.out]; rfl⟩
        case measure => simp [intOf]
end Go.Proofs.Ythjlknomaoolaaa
