/-
  Plain laws: what a gate does with bytes.
  message.Gate: memory, the closure that reads numbers, Pending, Last, NewGate.
-/
import Derived.Test.YtkaaoomliepijaaGreatQSlices
import Derived.RegionTactic
import Derived.Deep.DeepCutAuto
import Derived.Laws.BitsAllLaws
import Derived.Laws.Shifts
namespace Go.Proofs.YtkaaoomliepijaaGreat
open Go.RowKit
set_option linter.unusedVariables false

def at0 (l : List Int) (i : Nat) : Int := (l[i]?).getD 0
def len2 (r : List Int) : Int := at0 r 0 * 256 + at0 r 1
def num3 (r : List Int) : Int := (at0 r 2 * 256 + at0 r 3) * 256 + at0 r 4
def numOf (r : List Int) (last : Int) : Int := if 5 ≤ r.length then num3 r else last + 1
def badB (r : List Int) (last : Int) : Bool := decide (len2 r < 1) || decide (1000 < len2 r) || decide (numOf r last ≤ last)
def shortB (r : List Int) : Bool := decide ((r.length : Int) < 5 + len2 r)
/-- What comes out, what rests, the last number, and whether the gate broke. -/
structure GS where
  out : List (List Int)
  rest : List Int
  last : Int
  bad : Bool
def gateF : Nat → List Int → Int → GS
  | 0, r, l => ⟨[], r, l, false⟩
  | n + 1, r, l =>
    if r.length < 2 then ⟨[], r, l, false⟩
    else if badB r l = true then ⟨[], [], l, true⟩
    else if shortB r = true then ⟨[], r, l, false⟩
    else ⟨(r.drop 5).take (len2 r).toNat :: (gateF n (r.drop (5 + (len2 r).toNat)) (num3 r)).out, (gateF n (r.drop (5 + (len2 r).toNat)) (num3 r)).rest, (gateF n (r.drop (5 + (len2 r).toNat)) (num3 r)).last, (gateF n (r.drop (5 + (len2 r).toNat)) (num3 r)).bad⟩
theorem gateF_succ (n : Nat) (r : List Int) (l : Int) : gateF (n + 1) r l =
    if r.length < 2 then ⟨[], r, l, false⟩
    else if badB r l = true then ⟨[], [], l, true⟩
    else if shortB r = true then ⟨[], r, l, false⟩
    else ⟨(r.drop 5).take (len2 r).toNat :: (gateF n (r.drop (5 + (len2 r).toNat)) (num3 r)).out, (gateF n (r.drop (5 + (len2 r).toNat)) (num3 r)).rest, (gateF n (r.drop (5 + (len2 r).toNat)) (num3 r)).last, (gateF n (r.drop (5 + (len2 r).toNat)) (num3 r)).bad⟩ := rfl
/-- Enough fuel. -/
theorem gateF_more : ∀ (n m : Nat) (r : List Int) (l : Int), r.length ≤ n → n ≤ m → gateF m r l = gateF n r l
  | 0, m, r, l, h, _ => by
    have : r = [] := List.eq_nil_of_length_eq_zero (by omega)
    subst this
    cases m with
    | zero => rfl
    | succ m => rw [gateF_succ, if_pos (by decide)]; rfl
  | n + 1, m, r, l, h, hm => by
    obtain ⟨m', rfl⟩ : ∃ m', m = m' + 1 := ⟨m - 1, by omega⟩
    rw [gateF_succ, gateF_succ]
    by_cases h1 : r.length < 2
    · rw [if_pos h1, if_pos h1]
    · rw [if_neg h1, if_neg h1]
      by_cases h2 : badB r l = true
      · rw [if_pos h2, if_pos h2]
      · rw [if_neg h2, if_neg h2]
        by_cases h3 : shortB r = true
        · rw [if_pos h3, if_pos h3]
        · rw [if_neg h3, if_neg h3]
          have := gateF_more n m' (r.drop (5 + (len2 r).toNat)) (num3 r) (by rw [List.length_drop]; omega) (by omega)
          rw [this]
def gate (r : List Int) (l : Int) : GS := gateF r.length r l
theorem gate_stop {r : List Int} {l : Int} (h : r.length < 2) : gate r l = ⟨[], r, l, false⟩ := by
  unfold gate
  cases hn : r.length with
  | zero => rfl
  | succ n => rw [gateF_succ, if_pos h]
theorem gate_bad {r : List Int} {l : Int} (h : ¬ r.length < 2) (h2 : badB r l = true) : gate r l = ⟨[], [], l, true⟩ := by
  unfold gate
  obtain ⟨n, hn⟩ : ∃ n, r.length = n + 1 := ⟨r.length - 1, by omega⟩
  rw [hn, gateF_succ, if_neg h, if_pos h2]
theorem gate_short {r : List Int} {l : Int} (h : ¬ r.length < 2) (h2 : badB r l = false) (h3 : shortB r = true) : gate r l = ⟨[], r, l, false⟩ := by
  unfold gate
  obtain ⟨n, hn⟩ : ∃ n, r.length = n + 1 := ⟨r.length - 1, by omega⟩
  rw [hn, gateF_succ, if_neg h, if_neg (by rw [h2]; decide), if_pos h3]
theorem gate_one {r : List Int} {l : Int} (h : ¬ r.length < 2) (h2 : badB r l = false) (h3 : shortB r = false) :
    gate r l = ⟨(r.drop 5).take (len2 r).toNat :: (gate (r.drop (5 + (len2 r).toNat)) (num3 r)).out, (gate (r.drop (5 + (len2 r).toNat)) (num3 r)).rest, (gate (r.drop (5 + (len2 r).toNat)) (num3 r)).last, (gate (r.drop (5 + (len2 r).toNat)) (num3 r)).bad⟩ := by
  have e : gate (r.drop (5 + (len2 r).toNat)) (num3 r) = gateF (r.length - 1) (r.drop (5 + (len2 r).toNat)) (num3 r) := by
    unfold gate
    exact (gateF_more _ _ _ _ (Nat.le_refl _) (by rw [List.length_drop]; omega)).symm
  rw [e]
  unfold gate
  obtain ⟨n, hn⟩ : ∃ n, r.length = n + 1 := ⟨r.length - 1, by omega⟩
  rw [hn, Nat.add_sub_cancel, gateF_succ, if_neg h, if_neg (by rw [h2]; decide), if_neg (by rw [h3]; decide)]
theorem at0_append {a b : List Int} {i : Nat} (h : i < a.length) : at0 (a ++ b) i = at0 a i := by unfold at0; rw [List.getElem?_append_left h]
theorem len2_append {a b : List Int} (h : ¬ a.length < 2) : len2 (a ++ b) = len2 a := by unfold len2; rw [at0_append (by omega), at0_append (by omega)]
theorem num3_append {a b : List Int} (h : 5 ≤ a.length) : num3 (a ++ b) = num3 a := by unfold num3; rw [at0_append (by omega), at0_append (by omega), at0_append (by omega)]
/-- Bytes in two pieces. -/
theorem gate_append : ∀ (n : Nat) (a b : List Int) (l : Int), a.length ≤ n →
    gate (a ++ b) l = if (gate a l).bad = true then ⟨(gate a l).out, [], (gate a l).last, true⟩
      else ⟨(gate a l).out ++ (gate ((gate a l).rest ++ b) (gate a l).last).out, (gate ((gate a l).rest ++ b) (gate a l).last).rest, (gate ((gate a l).rest ++ b) (gate a l).last).last, (gate ((gate a l).rest ++ b) (gate a l).last).bad⟩
  | n, a, b, l, hn => by
    by_cases h1 : a.length < 2
    · rw [gate_stop (r := a) h1]; rfl
    · have h1' : ¬ (a ++ b).length < 2 := by rw [List.length_append]; omega
      cases h2 : badB a l with
      | true =>
        have e := gate_bad h1 h2
        rw [e]
        have h2' : badB (a ++ b) l = true := by
          unfold badB at h2 ⊢
          rw [len2_append h1]
          simp only [Bool.or_eq_true, decide_eq_true_eq] at h2 ⊢
          rcases h2 with h2 | h2
          · exact .inl h2
          · right
            unfold numOf at h2 ⊢
            by_cases h5 : 5 ≤ a.length
            · rw [if_pos h5] at h2
              rw [if_pos (by rw [List.length_append]; omega), num3_append h5]
              exact h2
            · rw [if_neg h5] at h2; omega
        rw [gate_bad h1' h2']
        rfl
      | false =>
        cases h3 : shortB a with
        | true =>
          rw [gate_short h1 h2 h3]; rfl
        | false =>
          have h5 : 5 ≤ a.length ∧ 0 ≤ len2 a ∧ 5 + (len2 a).toNat ≤ a.length ∧ 1 ≤ len2 a := by
            unfold shortB at h3
            unfold badB at h2
            simp only [Bool.or_eq_false_iff, decide_eq_false_iff_not] at h2 h3
            omega
          obtain ⟨h5, h6, h7, h8⟩ := h5
          have h2' : badB (a ++ b) l = false := by
            unfold badB numOf at h2 ⊢
            rw [len2_append h1, if_pos (by rw [List.length_append]; omega), num3_append h5]
            rw [if_pos h5] at h2
            exact h2
          have h3' : shortB (a ++ b) = false := by
            unfold shortB at h3 ⊢
            rw [len2_append h1]
            simp only [decide_eq_false_iff_not] at h3 ⊢
            rw [List.length_append]; omega
          rw [gate_one h1 h2 h3, gate_one h1' h2' h3', len2_append h1, num3_append h5]
          have e1 : (a ++ b).drop (5 + (len2 a).toNat) = a.drop (5 + (len2 a).toNat) ++ b := by rw [List.drop_append_of_le_length h7]
          have e2 : ((a ++ b).drop 5).take (len2 a).toNat = (a.drop 5).take (len2 a).toNat := by
            rw [List.drop_append_of_le_length h5, List.take_append_of_le_length (by rw [List.length_drop]; omega)]
          rw [e1, e2]
          match n with
          | 0 => omega
          | n + 1 =>
            rw [gate_append n (a.drop (5 + (len2 a).toNat)) b (num3 a) (by rw [List.length_drop]; omega)]
            split <;> rfl
theorem gate_app (a b : List Int) (l : Int) :
    gate (a ++ b) l = if (gate a l).bad = true then ⟨(gate a l).out, [], (gate a l).last, true⟩
      else ⟨(gate a l).out ++ (gate ((gate a l).rest ++ b) (gate a l).last).out, (gate ((gate a l).rest ++ b) (gate a l).last).rest, (gate ((gate a l).rest ++ b) (gate a l).last).last, (gate ((gate a l).rest ++ b) (gate a l).last).bad⟩ := gate_append _ a b l (Nat.le_refl _)
end Go.Proofs.YtkaaoomliepijaaGreat
namespace Go.Proofs.YtkaaoomliepijaaGreat
open Go.RowKit
set_option linter.unusedVariables false

def IsB (l : List Int) : Prop := ∀ y ∈ l, 0 ≤ y ∧ y ≤ 255
theorem IsB.at0 {l : List Int} (h : IsB l) (i : Nat) : 0 ≤ at0 l i ∧ at0 l i ≤ 255 := by
  unfold Go.Proofs.YtkaaoomliepijaaGreat.at0
  cases hx : l[i]? with
  | none => simp
  | some y => exact h y (List.mem_of_getElem? hx)
theorem ofInt_i64 (a : Nat) (h : a < 18446744073709551616) : (BitVec.ofInt 64 (a : Int)).toNat = a := by
  rw [show (BitVec.ofInt 64 (a : Int)) = BitVec.ofNat 64 a from by rfl]
  simp
  omega
theorem or_i64 (n x : Int) (h0 : 0 ≤ n) (h1 : n ≤ 10000000000) (h2 : 0 ≤ x) (h3 : x ≤ 255) : bits .or .i64 (n * 256) x = n * 256 + x := by
  obtain ⟨a, rfl⟩ := Int.eq_ofNat_of_zero_le h0
  obtain ⟨b, rfl⟩ := Int.eq_ofNat_of_zero_le h2
  have e : a * 256 + b = a * 256 ||| b := by
    have := Nat.two_pow_add_eq_or_of_lt (i := 8) (b := b) (by omega) a
    rw [Nat.mul_comm] at this
    exact this
  have e2 : ((a : Int) * 256) = ((a * 256 : Nat) : Int) := by omega
  rw [e2]
  show IntKind.i64.wrap ((BitVec.ofInt 64 ((a * 256 : Nat) : Int) ||| BitVec.ofInt 64 (b : Int)).toNat : Int) = _
  rw [BitVec.toNat_or, ofInt_i64 _ (by omega), ofInt_i64 _ (by omega), ← e, IntWalk.i64_in _ (by omega)]
  omega

structure GateAt (w : World) (base b : Nat) (rv : Value) (rest : List Int) (last : Int) (br : Bool) : Prop where
  hb : Blk w b 102 [rv, .int .i64 last, .bool br]
  hr : Vw (Value.int .u8) 5 w base rv rest
  ne : rv.ownBlock ≠ some b
  hbb : base ≤ b
def gateS (b : Nat) (rv : Value) (k : Nat) : Prop := k = b ∨ rv.ownBlock = some k
section
variable {w w' : World} {base b : Nat} {rv : Value} {rest : List Int} {last : Int} {br : Bool} {S : Nat → Prop}
theorem GateAt.upd (h : GateAt w base b rv rest last br) (u : Upd S w w') (h1 : ¬ S b) (h2 : ∀ k, rv.ownBlock = some k → ¬ S k) : GateAt w' base b rv rest last br := ⟨h.hb.upd u h1, h.hr.upd u h2, h.ne, h.hbb⟩
theorem GateAt.below (h : GateAt w base b rv rest last br) (q : Below w.heap.size w w') : GateAt w' base b rv rest last br := h.upd (S := fun _ => False) (Upd.of_below q) id fun _ _ => id
theorem GateAt.lt (h : GateAt w base b rv rest last br) {k : Nat} (hk : gateS b rv k) : base ≤ k ∧ k < w.heap.size := by
  rcases hk with rfl | hk
  · exact ⟨h.hbb, h.hb.lt⟩
  · exact h.hr.lt hk
end

/-- The number that k bytes from 'from' on make. -/
def numF (r : List Int) (from_ : Nat) : Nat → Int
  | 0 => 0
  | k + 1 => numF r from_ k * 256 + at0 r (from_ + k)
theorem numF_bd {r : List Int} (h : IsB r) (a : Nat) : 0 ≤ numF r a 0 ∧ numF r a 0 ≤ 0 ∧ 0 ≤ numF r a 1 ∧ numF r a 1 ≤ 255 ∧ 0 ≤ numF r a 2 ∧ numF r a 2 ≤ 65535 ∧ 0 ≤ numF r a 3 ∧ numF r a 3 ≤ 16777215 := by
  have h0 := h.at0 (a + 0); have h1 := h.at0 (a + 1); have h2 := h.at0 (a + 2)
  simp only [numF]
  omega
theorem numF_len2 (r : List Int) : numF r 0 2 = len2 r := by simp [numF, len2]
theorem numF_num3 (r : List Int) : numF r 2 3 = num3 r := by simp [numF, num3]
def RdRel (w : World) (r : List Int) (a n : Nat) (vn vi : Value) (wr : World) : Prop := ∃ k : Nat, k ≤ n ∧ vi = .int .i64 k ∧ vn = .int .i64 (numF r a k) ∧ Qt w wr

set_option maxHeartbeats 4000000 in
set_option maxRecDepth 100000 in
theorem read_any (w : World) (base b gc : Nat) (rv : Value) (r : List Int) (last : Int) (br : Bool) (h : GateAt w base b rv r last br) (hg : Blk w gc 29 [.pointer (some ⟨b, 0, none⟩)]) (hB : IsB r) (a n : Nat) (hn : n ≤ 3) (ha : a + n ≤ r.length) (hl : r.length ≤ 100000000) (h0 : 1 ≤ n) :
    Calls Tryz.prog 59 #[.int .i64 a, .int .i64 ((a + n : Nat) : Int), .pointer (some ⟨gc, 0, none⟩)] w fun e w' => e = .returned (.int .i64 (numF r a n)) ∧ Qt w w' := by
  obtain ⟨ra, rc, rfl⟩ := h.hr.shape
  obtain ⟨rg, ro, rfl⟩ : ∃ g o, ra = some ⟨g, o, none⟩ := by
    rcases h.hr with ⟨e, e2⟩ | ⟨g, o, c, e, _⟩
    · rw [e2] at ha; simp at ha; omega
    · cases e; exact ⟨g, o, rfl⟩
  have hrc : r.length ≤ rc ∧ rc ≤ maxLen := by
    rcases h.hr with ⟨e, e2⟩ | ⟨g, o, c, e, _, _, h3, h4, _⟩
    · cases e
    · cases e; exact ⟨h3, h4⟩
  obtain ⟨hrc, hrm⟩ := hrc
  unfold maxLen at hrm
  have g0 := hg.cell (i := 0) rfl
  have b0 := h.hb.cell (i := 0) rfl
  have S := Lib.hid h.hr.sl
  have HB := Lib.hid hB
  have NB := Lib.hid (numF_bd hB a)
  obtain ⟨m, hm⟩ : ∃ m, m = a + n := ⟨_, rfl⟩
  rw [← hm]
  have i0 : (0 : Int) ≤ (a : Int) := by omega
  have i1 : (a : Int) ≤ (m : Int) := by omega
  have i2 : (m : Int) ≤ (rc : Int) := by omega
  have i3 : (m : Int) ≤ (r.length : Int) := by omega
  have i4 : ¬ a = rc := by omega
  have i5 : ¬ rc = a := by omega
  have hml : m - a = n := by omega
  have HM := Lib.hid hm
  clear h hg hB hm
  go_enter Tryz.func59, Tryz.ntmps59
  go_wp2_with fail
  clear g0 b0 i0 i1 i2 i3 i4 i5
  go_loopw [6, 17] (fun vn vi wr => RdRel w r a n vn vi wr) (fun _ vi _ => n - (intOf vi).toNat)
  case atStart => exact ⟨0, Nat.zero_le _, rfl, rfl, Qt.refl _⟩
  case round =>
    obtain ⟨k, hk, rfl, rfl, hq⟩ := hrel
    have Q := Lib.hid hq; clear hq
    by_cases hlt : k < n
    · obtain ⟨y, ey⟩ : ∃ y, r[a + k]? = some y := ⟨r[a + k]'(by have := HM.out; omega), by simp⟩
      have cy := ((S.out.qt Q.out) (a + k) y ey).2
      rw [adr_mk, ← Nat.add_assoc] at cy
      have hy := HB.out y (List.mem_of_getElem? ey)
      have e0 : at0 r (a + k) = y := by unfold at0; rw [ey]; rfl
      have hNk : 0 ≤ numF r a k ∧ numF r a k ≤ 16777215 := by
        have := NB.out
        rcases (show k = 0 ∨ k = 1 ∨ k = 2 by omega) with rfl | rfl | rfl <;> omega
      have hs : Hid (numF r a (k + 1) = numF r a k * 256 + y) := by show numF r a k * 256 + at0 r (a + k) = _; rw [e0]
      obtain ⟨hy0, hy1⟩ := hy
      obtain ⟨hN0, hN1⟩ := hNk
      have hor := or_i64 (numF r a k) y hN0 (by omega) hy0 hy1
      generalize numF r a k = nk at *
      clear e0 ey
      have hkn : (k : Int) < (n : Int) := by omega
      go_wp2_with fail
      go_roundw
      case rel => exact ⟨k + 1, by omega, by go_num, by rw [hs.out], Q.out⟩
      case measure => simp [intOf]; omega
    · obtain rfl : k = n := by omega
      go_wp2_with fail
      go_ret
      exact ⟨rfl, Q.out⟩
end Go.Proofs.YtkaaoomliepijaaGreat
