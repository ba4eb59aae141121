/-
  Contract of (*arbiter.Arbiter).Pick.
-/
import Derived.Test.YthjlknomaoolaaaNew
import Derived.Test.YthjlknomaoolaaaSlices
namespace Go.Proofs.Ythjlknomaoolaaa
open Go.RowKit

/-- The first request at or behind p, cyclically, looked for in the last m of n steps; -1: none. -/
def pkf (n p : Nat) (rs : List Bool) : Nat → Int
  | 0 => -1
  | m + 1 => if rs.getD ((p + (n - (m + 1))) % n) false then (((p + (n - (m + 1))) % n : Nat) : Int) else pkf n p rs m

/-- The new age of request i behind the choice of c. -/
def agv (b : Bool) (i c a : Int) : Int := if b && i != c then (if 1073741824 < a + 1 then 1073741824 else a + 1) else 0
/-- The ages when the first k are renewed. -/
def ag (rs : List Bool) (c : Int) (ages : List Int) : Nat → List Int
  | 0 => ages
  | k + 1 => (ag rs c ages k).set k (agv (rs.getD k false) k c (ages.getD k 0))
theorem ag_len (rs : List Bool) (c : Int) (ages : List Int) : ∀ k, (ag rs c ages k).length = ages.length
  | 0 => rfl
  | k + 1 => by simp [ag, ag_len rs c ages k]
theorem ag_get (rs : List Bool) (c : Int) (ages : List Int) : ∀ k j, (ag rs c ages k)[j]? = if j < k then (ages[j]?).map (fun a => agv (rs.getD j false) j c a) else ages[j]?
  | 0, j => by simp [ag]
  | k + 1, j => by
    have ih := ag_get rs c ages k j
    rw [ag, List.getElem?_set, ag_len]
    by_cases h : k = j
    · subst h
      by_cases hl : k < ages.length
      · simp [hl]
      · simp [hl]
    · rw [if_neg h, ih]
      have : j < k + 1 ↔ j < k := by omega
      simp only [this]

theorem pkf_range (n p : Nat) (rs : List Bool) (hn : 0 < n) : ∀ m, pkf n p rs m = -1 ∨ (0 ≤ pkf n p rs m ∧ pkf n p rs m < n)
  | 0 => .inl rfl
  | m + 1 => by
    rw [pkf]
    split
    · right
      have := Nat.mod_lt (p + (n - (m + 1))) hn
      omega
    · exact pkf_range n p rs hn m

def nextP (p n : Nat) (ch : Int) : Nat := if ch < 0 then p else ((ch + 1) % n).toNat

def PkMem (T : TypeId) (w : World) (ar : Option Addr) (b c p : Nat) (ages : List Int) (rs : List Bool) (w' : World) : Prop :=
  ArbAt T w' b c p ages ∧ SlB w' ar rs ∧ Upd (fun k => k = b ∨ k = c) w w' ∧ w'.heap.size = w.heap.size

theorem ArbAt.store {T : TypeId} {w : World} {b c p : Nat} {ages : List Int} (h : ArbAt T w b c p ages) (k : Nat) (v : Int) : ArbAt T (w.setCell ⟨c, k, none⟩ (.int .i64 v)) b c p (ages.set k v) := by
  refine ⟨?_, ?_, h.ne⟩
  · rw [List.length_set]
    exact h.hb.setO _ h.ne
  · rw [List.map_set]
    exact h.hc.set k _
theorem ArbAt.point {T : TypeId} {w : World} {b c p : Nat} {ages : List Int} (h : ArbAt T w b c p ages) (q : Nat) : ArbAt T (w.setCell ⟨b, 0, none⟩ (.int .i64 q)) b c q ages :=
  ⟨h.hb.set 0 _, h.hc.setO _ (Ne.symm h.ne), h.ne⟩
theorem PkMem.store {T : TypeId} {w : World} {ar : Option Addr} {b c p : Nat} {ages : List Int} {rs : List Bool} {w' : World} (h : PkMem T w ar b c p ages rs w') (hd : (ar.getD default).block ≠ c) (k : Nat) (v : Int) :
    PkMem T w ar b c p (ages.set k v) rs (w'.setCell ⟨c, k, none⟩ (.int .i64 v)) :=
  ⟨h.1.store k v, h.2.1.set _ _ fun _ => hd, h.2.2.1.setCell _ _ fun _ => .inr rfl, by rw [World.size_setCell]; exact h.2.2.2⟩
theorem PkMem.point {T : TypeId} {w : World} {ar : Option Addr} {b c p : Nat} {ages : List Int} {rs : List Bool} {w' : World} (h : PkMem T w ar b c p ages rs w') (hd : (ar.getD default).block ≠ b) (q : Nat) :
    PkMem T w ar b c q ages rs (w'.setCell ⟨b, 0, none⟩ (.int .i64 q)) :=
  ⟨h.1.point q, h.2.1.set _ _ fun _ => hd, h.2.2.1.setCell _ _ fun _ => .inl rfl, by rw [World.size_setCell]; exact h.2.2.2⟩
theorem PkMem.drew {T : TypeId} {w : World} {ar : Option Addr} {b c p : Nat} {ages : List Int} {rs : List Bool} {w' : World} (h : PkMem T w ar b c p ages rs w') : PkMem T w ar b c p ages rs w'.drew :=
  ⟨⟨h.1.hb, h.1.hc, h.1.ne⟩, h.2.1, h.2.2.1.drew, h.2.2.2⟩

def PkRel (T : TypeId) (w : World) (ar : Option Addr) (b c p n : Nat) (ages : List Int) (rs : List Bool) (ch : Int) (i : Value) (w' : World) : Prop :=
  ∃ k : Nat, k ≤ n ∧ i = .int .i64 k ∧ PkMem T w ar b c p (ag rs ch ages k) rs w'

set_option maxHeartbeats 1000000 in
set_option maxRecDepth 100000 in
theorem pick_any (w : World) (ar : Option Addr) (b c p n cr : Nat) (ages : List Int) (rs : List Bool) (hA : ArbAt 55 w b c p ages) (hs : SlB w ar rs) (hp : p < n) (hn1 : 1 ≤ n) (hn : n ≤ 64)
    (l1 : ages.length = n) (l2 : rs.length = n) (hag : ∀ a ∈ ages, 0 ≤ a ∧ a ≤ 1073741824) (hd : (ar.getD default).block ≠ b ∧ (ar.getD default).block ≠ c) :
    Calls Try.prog 16 #[.pointer (some ⟨b, 0, none⟩), .slice ar n cr] w fun e w' =>
      e = .returned (.tuple #[.int .i64 (pkf n p rs n), .bool (decide (0 ≤ pkf n p rs n))]) ∧
      PkMem 55 w ar b c (nextP p n (pkf n p rs n)) (ag rs (pkf n p rs n) ages n) rs w' := by
  have L1 := Lib.hid l1; have L2 := Lib.hid l2; have HS := Lib.hid hs; clear l2 hs
  have HA := Lib.hid hA
  have q0 := hA.hb.cell (i := 0) rfl
  have q1 := hA.hb.cell (i := 1) rfl
  rw [l1] at q1
  clear l1 hA
  have hne : ((n : Int) == 0) = false := by simp; omega
  have hch := pkf_range n p rs (by omega) n
  generalize hCH : pkf n p rs n = ch at hch
  have HCH := Lib.hid hCH; have HR := Lib.hid hch; clear hCH hch
  go_enter Try.func16, Try.ntmps16
  go_upto_block 0 with fail
  go_cut [7] (fun s wx => s = .int .i64 ch ∧ wx = w)
  case first =>
    go_wp2_with fail
    go_loop [7, 35] (fun ch i => ∃ k : Nat, k ≤ n ∧ i = .int .i64 k ∧ ch = .int .i64 (-1) ∧ pkf n p rs n = pkf n p rs (n - k)) (fun _ i => n - (intOf i).toNat)
    case atStart => exact ⟨0, Nat.zero_le _, rfl, rfl, rfl⟩
    case round =>
      obtain ⟨k, hk, rfl, rfl, hpk⟩ := hrel
      have HP := Lib.hid hpk; clear hpk
      by_cases hlt : k < n
      · obtain ⟨bb, hb, okb, cb⟩ := HS.out.get (k := (p + k) % n) (by rw [L2.out]; exact Nat.mod_lt _ (by omega))
        have hlm := Nat.mod_lt (p + k) (show 0 < n by omega)
        have hst : Hid (pkf n p rs (n - k) = if bb then (((p + k) % n : Nat) : Int) else pkf n p rs (n - (k + 1))) := by
          show _ = _
          have e1 : n - k = (n - (k + 1)) + 1 := by omega
          have e2 : n - (n - (k + 1) + 1) = k := by omega
          rw [e1, pkf, e2]
          simp only [List.getD_eq_getElem?_getD, hb.out, Option.getD_some]
        generalize hM : (p + k) % n = m at *
        have HM := Lib.hid hM; clear hM
        have hmm : (((p : Int) + (k : Int)) % (n : Int)) = (m : Int) := by rw [← HM.out]; simp
        cases bb with
        | true =>
          go_wp2_with fail
          go_meet
          exact ⟨by rw [← HCH.out, HP.out, hst.out]; rfl, rfl⟩
        | false =>
          go_wp2_with fail
          go_round
          case rel => exact ⟨k + 1, by omega, by go_num, rfl, by rw [HP.out, hst.out]; rfl⟩
          case measure => simp [intOf]; omega
      · obtain rfl : k = n := by omega
        go_wp2_with fail
        go_meet
        exact ⟨by rw [← HCH.out, HP.out, Nat.sub_self]; rfl, rfl⟩
  case rest =>
    obtain ⟨rfl, rfl⟩ := hcut
    go_wp2_with fail
    have M0 : Hid (PkMem 55 wc ar b c p ages rs wc) := ⟨HA.out, HS.out, Upd.refl _ _, rfl⟩
    go_loopw [54] (fun i wr => PkRel 55 wc ar b c p n ages rs ch i wr) (fun i _ => n - (intOf i).toNat)
    case atStart => exact ⟨0, Nat.zero_le _, rfl, M0.out⟩
    case round =>
      obtain ⟨k, hk, rfl, hm⟩ := hrel
      have r0 := hm.1.hb.cell (i := 0) rfl
      have r1 := hm.1.hb.cell (i := 1) rfl
      rw [ag_len, L1.out] at r1
      have HM := Lib.hid hm; clear hm
      by_cases hlt : k < n
      · obtain ⟨bb, hb, okb, cb⟩ := HM.out.2.1.get (k := k) (by rw [L2.out]; exact hlt)
        have hka : k < ages.length := by rw [L1.out]; exact hlt
        have hga : (ag rs ch ages k)[k]? = some ages[k] := by rw [ag_get]; simp [hka]
        have rk := HM.out.1.hc.cell (i := k) (v := .int .i64 ages[k]) (by simp [hga])
        have fk := HM.out.1.hc.free k
        have hbd := hag ages[k] (by simp)
        have hst : Hid (ag rs ch ages (k + 1) = (ag rs ch ages k).set k (agv bb k ch ages[k])) := by
          show _ = _
          rw [ag]
          simp only [List.getD_eq_getElem?_getD, hb.out, Option.getD_some]
          simp [hka]
        generalize ages[k] = a at *
        clear hga
        cases bb with
        | false =>
          go_wp2_with fail
          go_roundw
          case rel => exact ⟨k + 1, by omega, by go_num, by rw [hst.out]; exact HM.out.store hd.2 k 0⟩
          case measure => simp [intOf]; omega
        | true =>
          by_cases hkc : (k : Int) = ch
          · have hkb : ((k : Int) != ch) = false := by simp [hkc]
            have HK := Lib.hid hkc; clear hkc
            go_wp2_with fail
            go_roundw
            case rel => exact ⟨k + 1, by omega, by go_num, by rw [hst.out]; simp only [agv, hkb]; exact HM.out.store hd.2 k 0⟩
            case measure => simp [intOf]; omega
          · have hkb : ((k : Int) != ch) = true := by simp [hkc]
            have HK := Lib.hid hkc; clear hkc
            go_wp2_with fail
            go_region
            go_wp2_with fail
            go_roundw
            case rel => exact ⟨k + 1, by omega, by go_num, by rw [hst.out]; exact ((HM.out.store hd.2 k (agv true k ch a)).drew : _) |> fun h => by simpa only [agv, hkb, Bool.and_self, if_true] using h⟩
            case measure => simp [intOf]; omega
      · obtain rfl : k = n := by omega
        rcases HR.out with hch | ⟨hch0, hch1⟩
        · subst hch
          go_wp2_with fail
          go_ret2
          exact ⟨rfl, HM.out⟩
        · obtain ⟨m, rfl⟩ := Int.eq_ofNat_of_zero_le hch0
          have hq : Hid (((((m : Int) + 1) % (k : Int)).toNat) = nextP p k m) := by show _ = _; unfold nextP; rw [if_neg (by omega)]
          have f0 := HM.out.1.hb.free 0
          obtain ⟨q, hq1⟩ : ∃ q : Nat, ((m : Int) + 1) % (k : Int) = q := ⟨_, (Int.toNat_of_nonneg (Int.emod_nonneg _ (by omega))).symm⟩
          go_wp2_with fail
          go_ret2
          exact ⟨rfl, by rw [← hq.out, hq1]; exact HM.out.point hd.1 q⟩
end Go.Proofs.Ythjlknomaoolaaa
