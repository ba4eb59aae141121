/-
  message.Gate: memory, the closure that reads numbers, Pending, Last, NewGate.
-/
import Derived.Test.YtjljjohoipnhhaaGateP
import Derived.RegionTactic
import Derived.Deep.DeepCutAuto
import Derived.Laws.BitsAllLaws
import Derived.Laws.Shifts
namespace Go.Proofs.Ytjljjohoipnhhaa
open Go.RowKit
set_option linter.unusedVariables false

def IsB (l : List Int) : Prop := ∀ y ∈ l, 0 ≤ y ∧ y ≤ 255
theorem IsB.at0 {l : List Int} (h : IsB l) (i : Nat) : 0 ≤ at0 l i ∧ at0 l i ≤ 255 := by
  unfold Go.Proofs.Ytjljjohoipnhhaa.at0
  cases hx : l[i]? with
  | none => simp
  | some y => exact h y (List.mem_of_getElem? hx)
theorem ofInt_i64 (a : Nat) (h : a < 18446744073709551616) : (BitVec.ofInt 64 (a : Int)).toNat = a := by
  rw [show (BitVec.ofInt 64 (a : Int)) = BitVec.ofNat 64 a from by rfl]
  simp
  omega
theorem or_i64 (n x : Int) (h0 : 0 ≤ n) (h1 : n ≤ 10000000000) (h2 : 0 ≤ x) (h3 : x ≤ 255) : bits .or .i64 (n * 256) x = n * 256 + x := by
  obtain ⟨a, rfl⟩ := Int.eq_ofNat_of_zero_le h0
  obtain ⟨b, rfl⟩ := Int.eq_ofNat_of_zero_le h2
  have e : a * 256 + b = a * 256 ||| b := by
    have := Nat.two_pow_add_eq_or_of_lt (i := 8) (b := b) (by omega) a
    rw [Nat.mul_comm] at this
    exact this
  have e2 : ((a : Int) * 256) = ((a * 256 : Nat) : Int) := by omega
  rw [e2]
  show IntKind.i64.wrap ((BitVec.ofInt 64 ((a * 256 : Nat) : Int) ||| BitVec.ofInt 64 (b : Int)).toNat : Int) = _
  rw [BitVec.toNat_or, ofInt_i64 _ (by omega), ofInt_i64 _ (by omega), ← e, IntWalk.i64_in _ (by omega)]
  omega

structure GateAt (w : World) (base b : Nat) (rv : Value) (rest : List Int) (last : Int) (br : Bool) : Prop where
  hb : Blk w b 78 [rv, .int .i64 last, .bool br]
  hr : Vw (Value.int .u8) 5 w base rv rest
  ne : rv.ownBlock ≠ some b
  hbb : base ≤ b
def gateS (b : Nat) (rv : Value) (k : Nat) : Prop := k = b ∨ rv.ownBlock = some k
section
variable {w w' : World} {base b : Nat} {rv : Value} {rest : List Int} {last : Int} {br : Bool} {S : Nat → Prop}
theorem GateAt.upd (h : GateAt w base b rv rest last br) (u : Upd S w w') (h1 : ¬ S b) (h2 : ∀ k, rv.ownBlock = some k → ¬ S k) : GateAt w' base b rv rest last br := ⟨h.hb.upd u h1, h.hr.upd u h2, h.ne, h.hbb⟩
theorem GateAt.below (h : GateAt w base b rv rest last br) (q : Below w.heap.size w w') : GateAt w' base b rv rest last br := h.upd (S := fun _ => False) (Upd.of_below q) id fun _ _ => id
theorem GateAt.lt (h : GateAt w base b rv rest last br) {k : Nat} (hk : gateS b rv k) : base ≤ k ∧ k < w.heap.size := by
  rcases hk with rfl | hk
  · exact ⟨h.hbb, h.hb.lt⟩
  · exact h.hr.lt hk
end

/-- The number that k bytes from 'from' on make. -/
def numF (r : List Int) (from_ : Nat) : Nat → Int
  | 0 => 0
  | k + 1 => numF r from_ k * 256 + at0 r (from_ + k)
theorem numF_bd {r : List Int} (h : IsB r) (a : Nat) : 0 ≤ numF r a 0 ∧ numF r a 0 ≤ 0 ∧ 0 ≤ numF r a 1 ∧ numF r a 1 ≤ 255 ∧ 0 ≤ numF r a 2 ∧ numF r a 2 ≤ 65535 ∧ 0 ≤ numF r a 3 ∧ numF r a 3 ≤ 16777215 := by
  have h0 := h.at0 (a + 0); have h1 := h.at0 (a + 1); have h2 := h.at0 (a + 2)
  simp only [numF]
  omega
theorem numF_len2 (r : List Int) : numF r 0 2 = len2 r := by simp [numF, len2]
theorem numF_num3 (r : List Int) : numF r 2 3 = num3 r := by simp [numF, num3]
def RdRel (w : World) (r : List Int) (a n : Nat) (vn vi : Value) (wr : World) : Prop := ∃ k : Nat, k ≤ n ∧ vi = .int .i64 k ∧ vn = .int .i64 (numF r a k) ∧ Qt w wr

set_option maxHeartbeats 4000000 in
set_option maxRecDepth 100000 in
theorem read_any (w : World) (base b gc : Nat) (rv : Value) (r : List Int) (last : Int) (br : Bool) (h : GateAt w base b rv r last br) (hg : Blk w gc 52 [.pointer (some ⟨b, 0, none⟩)]) (hB : IsB r) (a n : Nat) (hn : n ≤ 3) (ha : a + n ≤ r.length) (hl : r.length ≤ 100000000) (h0 : 1 ≤ n) :
    Calls Try.prog 38 #[.int .i64 a, .int .i64 ((a + n : Nat) : Int), .pointer (some ⟨gc, 0, none⟩)] w fun e w' => e = .returned (.int .i64 (numF r a n)) ∧ Qt w w' := by
  obtain ⟨ra, rc, rfl⟩ := h.hr.shape
  obtain ⟨rg, ro, rfl⟩ : ∃ g o, ra = some ⟨g, o, none⟩ := by
    rcases h.hr with ⟨e, e2⟩ | ⟨g, o, c, e, _⟩
    · rw [e2] at ha; simp at ha; omega
    · cases e; exact ⟨g, o, rfl⟩
  have hrc : r.length ≤ rc ∧ rc ≤ maxLen := by
    rcases h.hr with ⟨e, e2⟩ | ⟨g, o, c, e, _, _, h3, h4, _⟩
    · cases e
    · cases e; exact ⟨h3, h4⟩
  obtain ⟨hrc, hrm⟩ := hrc
  unfold maxLen at hrm
  have g0 := hg.cell (i := 0) rfl
  have b0 := h.hb.cell (i := 0) rfl
  have S := Lib.hid h.hr.sl
  have HB := Lib.hid hB
  have NB := Lib.hid (numF_bd hB a)
  obtain ⟨m, hm⟩ : ∃ m, m = a + n := ⟨_, rfl⟩
  rw [← hm]
  have i0 : (0 : Int) ≤ (a : Int) := by omega
  have i1 : (a : Int) ≤ (m : Int) := by omega
  have i2 : (m : Int) ≤ (rc : Int) := by omega
  have i3 : (m : Int) ≤ (r.length : Int) := by omega
  have i4 : ¬ a = rc := by omega
  have i5 : ¬ rc = a := by omega
  have hml : m - a = n := by omega
  have HM := Lib.hid hm
  clear h hg hB hm
  go_enter Try.func38, Try.ntmps38
  go_wp2_with fail
  clear g0 b0 i0 i1 i2 i3 i4 i5
  go_loopw [6, 17] (fun vn vi wr => RdRel w r a n vn vi wr) (fun _ vi _ => n - (intOf vi).toNat)
  case atStart => exact ⟨0, Nat.zero_le _, rfl, rfl, Qt.refl _⟩
  case round =>
    obtain ⟨k, hk, rfl, rfl, hq⟩ := hrel
    have Q := Lib.hid hq; clear hq
    by_cases hlt : k < n
    · obtain ⟨y, ey⟩ : ∃ y, r[a + k]? = some y := ⟨r[a + k]'(by have := HM.out; omega), by simp⟩
      have cy := ((S.out.qt Q.out) (a + k) y ey).2
      rw [adr_mk, ← Nat.add_assoc] at cy
      have hy := HB.out y (List.mem_of_getElem? ey)
      have e0 : at0 r (a + k) = y := by unfold at0; rw [ey]; rfl
      have hNk : 0 ≤ numF r a k ∧ numF r a k ≤ 16777215 := by
        have := NB.out
        rcases (show k = 0 ∨ k = 1 ∨ k = 2 by omega) with rfl | rfl | rfl <;> omega
      have hs : Hid (numF r a (k + 1) = numF r a k * 256 + y) := by show numF r a k * 256 + at0 r (a + k) = _; rw [e0]
      obtain ⟨hy0, hy1⟩ := hy
      obtain ⟨hN0, hN1⟩ := hNk
      have hor := or_i64 (numF r a k) y hN0 (by omega) hy0 hy1
      generalize numF r a k = nk at *
      clear e0 ey
      have hkn : (k : Int) < (n : Int) := by omega
      go_wp2_with fail
      go_roundw
      case rel => exact ⟨k + 1, by omega, by go_num, by rw [hs.out], Q.out⟩
      case measure => simp [intOf]; omega
    · obtain rfl : k = n := by omega
      go_wp2_with fail
      go_ret
      exact ⟨rfl, Q.out⟩
end Go.Proofs.Ytjljjohoipnhhaa
