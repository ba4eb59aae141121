/-
  Contracts of slices.IndexFunc at the closures of branch.Fork, and of slices.ContainsFunc.
-/
import Derived.Test.YteomiofmaopkhaaBrLib
namespace Go.Proofs.Yteomiofmaopkhaa
open Go.RowKit
set_option linter.unusedVariables false

/-- r is the index of the first frame with p, or -1. -/
def IdxIs (p : Fr → Bool) (l : List Fr) (r : Int) : Prop :=
  (r = -1 ∧ ∀ (j : Nat) (y : Fr), l[j]? = some y → p y = false) ∨ ∃ (k : Nat) (x : Fr), r = k ∧ l[k]? = some x ∧ p x = true ∧ ∀ (j : Nat) (y : Fr), j < k → l[j]? = some y → p y = false
def IdxPost (p : Fr → Bool) (l : List Fr) (w : World) (e : Ending) (w' : World) : Prop := ∃ r : Int, e = .returned (.int .i64 r) ∧ IdxIs p l r ∧ Below w.heap.size w w'
def IdxRel (p : Fr → Bool) (l : List Fr) (w : World) (i : Value) (wr : World) : Prop := ∃ k : Nat, k ≤ l.length ∧ i = .int .i64 k ∧ (∀ (j : Nat) (y : Fr), j < k → l[j]? = some y → p y = false) ∧ Below w.heap.size w wr
theorem IdxIs.none {p : Fr → Bool} {l : List Fr} (h : IdxIs p l (-1)) : ∀ x ∈ l, p x = false := by
  intro x hx
  obtain ⟨j, hj⟩ := List.mem_iff_getElem?.1 hx
  rcases h with ⟨_, h⟩ | ⟨k, _, h, _⟩
  · exact h j x hj
  · omega
theorem idxrel_step {p : Fr → Bool} {l : List Fr} {k : Nat} {x : Fr} (h : ∀ (j : Nat) (y : Fr), j < k → l[j]? = some y → p y = false) (hx : l[k]? = some x) (hp : p x = false) : ∀ (j : Nat) (y : Fr), j < k + 1 → l[j]? = some y → p y = false := by
  intro j y hj hy
  by_cases e : j < k
  · exact h j y e hy
  · obtain rfl : j = k := by omega
    rw [hx] at hy
    exact Option.some.inj hy ▸ hp

set_option maxHeartbeats 2000000 in
set_option maxRecDepth 100000 in
theorem idx_put (w : World) (a : Option Addr) (c : Nat) (l : List Fr) (hs : SlF w a l) (hl : l.length ≤ 1000) (nid : Int) (ib : Nat) (hi : Blk w ib 3 [.int .i64 nid]) :
    Calls Try.prog 34 #[.slice a l.length c, .func (.func 33) #[] #[.pointer (some ⟨ib, 0, none⟩)]] w (IdxPost (fun y => y.id == nid) l w) := by
  have S := Lib.hid hs; have HI := Lib.hid hi
  clear hs hi
  go_enter Try.func34, Try.ntmps34
  go_wp2_with fail
  go_loopw [8] (fun i wr => IdxRel (fun y => y.id == nid) l w i wr) (fun i _ => l.length - (intOf i).toNat)
  case atStart => exact ⟨0, Nat.zero_le _, rfl, fun j y h => by omega, Below.refl _ _⟩
  case round =>
    obtain ⟨k, hk, rfl, hv, hb⟩ := hrel
    have HV := Lib.hid hv; have HB := Lib.hid hb
    clear hv hb
    by_cases hlt : k < l.length
    · obtain ⟨x, ex, okx, c1, c2⟩ := (S.out.below HB.out).get (k := k) hlt
      have P := Lib.hid (put1_any x nid ib wr (HI.out.upd (S := fun _ => False) (Upd.of_below HB.out) id))
      cases hpx : (fun y => y.id == nid) x with
      | true =>
        have HP := Lib.hid hpx
        have P' : Hid (Calls Try.prog 33 #[.agg #[.int .i64 x.id, .int .u64 (x.bits : Int)], .pointer (some ⟨ib, 0, none⟩)] wr fun e w' => e = .returned (.bool true) ∧ Below wr.heap.size wr w') := P.out.mono fun e w' ⟨h1, h2⟩ => ⟨by rw [h1]; exact congrArg (fun b => Ending.returned (.bool b)) hpx, h2⟩
        clear hpx P
        go_wp2_with fail
        refine P'.out.mono ?_
        rintro e w1 ⟨rfl, hb⟩
        have B1 := Lib.hid (HB.out.trans (hb.mono HB.out.size)); clear hb
        go_wp2_with fail
        go_ret
        exact ⟨_, rfl, .inr ⟨k, x, rfl, ex.out, HP.out, HV.out⟩, B1.out⟩
      | false =>
        have HP := Lib.hid hpx
        have P' : Hid (Calls Try.prog 33 #[.agg #[.int .i64 x.id, .int .u64 (x.bits : Int)], .pointer (some ⟨ib, 0, none⟩)] wr fun e w' => e = .returned (.bool false) ∧ Below wr.heap.size wr w') := P.out.mono fun e w' ⟨h1, h2⟩ => ⟨by rw [h1]; exact congrArg (fun b => Ending.returned (.bool b)) hpx, h2⟩
        clear hpx P
        go_wp2_with fail
        refine P'.out.mono ?_
        rintro e w1 ⟨rfl, hb⟩
        have B1 := Lib.hid (HB.out.trans (hb.mono HB.out.size)); clear hb
        go_wp2_with fail
        go_roundw
        case rel => exact ⟨k + 1, by omega, by go_num, idxrel_step HV.out ex.out HP.out, B1.out⟩
        case measure => simp [intOf]; omega
    · obtain rfl : k = l.length := by omega
      go_wp2_with fail
      go_ret
      exact ⟨_, rfl, .inl ⟨rfl, fun j y hy => HV.out j y (get_lt hy) hy⟩, HB.out⟩

set_option maxHeartbeats 2000000 in
set_option maxRecDepth 100000 in
theorem idx_step (w : World) (a : Option Addr) (c : Nat) (l : List Fr) (hs : SlF w a l) (hl : l.length ≤ 1000) (k0 : Nat) (kb : Nat) (hk0 : k0 < 8) (hi : Blk w kb 3 [.int .i64 k0]) (h8 : ∀ x ∈ l, x.bits < 256) :
    Calls Try.prog 34 #[.slice a l.length c, .func (.func 35) #[] #[.pointer (some ⟨kb, 0, none⟩)]] w (IdxPost (fun y => hasB y.bits k0) l w) := by
  have S := Lib.hid hs; have HI := Lib.hid hi; have H8 := Lib.hid h8
  clear hs hi h8
  go_enter Try.func34, Try.ntmps34
  go_wp2_with fail
  go_loopw [8] (fun i wr => IdxRel (fun y => hasB y.bits k0) l w i wr) (fun i _ => l.length - (intOf i).toNat)
  case atStart => exact ⟨0, Nat.zero_le _, rfl, fun j y h => by omega, Below.refl _ _⟩
  case round =>
    obtain ⟨k, hk, rfl, hv, hb⟩ := hrel
    have HV := Lib.hid hv; have HB := Lib.hid hb
    clear hv hb
    by_cases hlt : k < l.length
    · obtain ⟨x, ex, okx, c1, c2⟩ := (S.out.below HB.out).get (k := k) hlt
      have P := Lib.hid (step1_any x k0 kb wr hk0 (H8.out x (List.mem_of_getElem? ex.out)) (HI.out.upd (S := fun _ => False) (Upd.of_below HB.out) id))
      cases hpx : (fun y => hasB y.bits k0) x with
      | true =>
        have HP := Lib.hid hpx
        have P' : Hid (Calls Try.prog 35 #[.agg #[.int .i64 x.id, .int .u64 (x.bits : Int)], .pointer (some ⟨kb, 0, none⟩)] wr fun e w' => e = .returned (.bool true) ∧ Below wr.heap.size wr w') := P.out.mono fun e w' ⟨h1, h2⟩ => ⟨by rw [h1]; exact congrArg (fun b => Ending.returned (.bool b)) hpx, h2⟩
        clear hpx P
        go_wp2_with fail
        refine P'.out.mono ?_
        rintro e w1 ⟨rfl, hb⟩
        have B1 := Lib.hid (HB.out.trans (hb.mono HB.out.size)); clear hb
        go_wp2_with fail
        go_ret
        exact ⟨_, rfl, .inr ⟨k, x, rfl, ex.out, HP.out, HV.out⟩, B1.out⟩
      | false =>
        have HP := Lib.hid hpx
        have P' : Hid (Calls Try.prog 35 #[.agg #[.int .i64 x.id, .int .u64 (x.bits : Int)], .pointer (some ⟨kb, 0, none⟩)] wr fun e w' => e = .returned (.bool false) ∧ Below wr.heap.size wr w') := P.out.mono fun e w' ⟨h1, h2⟩ => ⟨by rw [h1]; exact congrArg (fun b => Ending.returned (.bool b)) hpx, h2⟩
        clear hpx P
        go_wp2_with fail
        refine P'.out.mono ?_
        rintro e w1 ⟨rfl, hb⟩
        have B1 := Lib.hid (HB.out.trans (hb.mono HB.out.size)); clear hb
        go_wp2_with fail
        go_roundw
        case rel => exact ⟨k + 1, by omega, by go_num, idxrel_step HV.out ex.out HP.out, B1.out⟩
        case measure => simp [intOf]; omega
    · obtain rfl : k = l.length := by omega
      go_wp2_with fail
      go_ret
      exact ⟨_, rfl, .inl ⟨rfl, fun j y hy => HV.out j y (get_lt hy) hy⟩, HB.out⟩

set_option maxHeartbeats 2000000 in
set_option maxRecDepth 100000 in
theorem idx_del (w : World) (a : Option Addr) (c : Nat) (l : List Fr) (hs : SlF w a l) (hl : l.length ≤ 1000) :
    Calls Try.prog 34 #[.slice a l.length c, .func (.func 37) #[] #[]] w (IdxPost (fun y => decide (y.bits = 0)) l w) := by
  have S := Lib.hid hs
  clear hs
  go_enter Try.func34, Try.ntmps34
  go_wp2_with fail
  go_loopw [8] (fun i wr => IdxRel (fun y => decide (y.bits = 0)) l w i wr) (fun i _ => l.length - (intOf i).toNat)
  case atStart => exact ⟨0, Nat.zero_le _, rfl, fun j y h => by omega, Below.refl _ _⟩
  case round =>
    obtain ⟨k, hk, rfl, hv, hb⟩ := hrel
    have HV := Lib.hid hv; have HB := Lib.hid hb
    clear hv hb
    by_cases hlt : k < l.length
    · obtain ⟨x, ex, okx, c1, c2⟩ := (S.out.below HB.out).get (k := k) hlt
      have P := Lib.hid (step2_any x wr)
      cases hpx : (fun y => decide (y.bits = 0)) x with
      | true =>
        have HP := Lib.hid hpx
        have P' : Hid (Calls Try.prog 37 #[.agg #[.int .i64 x.id, .int .u64 (x.bits : Int)]] wr fun e w' => e = .returned (.bool true) ∧ Below wr.heap.size wr w') := P.out.mono fun e w' ⟨h1, h2⟩ => ⟨by rw [h1]; exact congrArg (fun b => Ending.returned (.bool b)) hpx, h2⟩
        clear hpx P
        go_wp2_with fail
        refine P'.out.mono ?_
        rintro e w1 ⟨rfl, hb⟩
        have B1 := Lib.hid (HB.out.trans (hb.mono HB.out.size)); clear hb
        go_wp2_with fail
        go_ret
        exact ⟨_, rfl, .inr ⟨k, x, rfl, ex.out, HP.out, HV.out⟩, B1.out⟩
      | false =>
        have HP := Lib.hid hpx
        have P' : Hid (Calls Try.prog 37 #[.agg #[.int .i64 x.id, .int .u64 (x.bits : Int)]] wr fun e w' => e = .returned (.bool false) ∧ Below wr.heap.size wr w') := P.out.mono fun e w' ⟨h1, h2⟩ => ⟨by rw [h1]; exact congrArg (fun b => Ending.returned (.bool b)) hpx, h2⟩
        clear hpx P
        go_wp2_with fail
        refine P'.out.mono ?_
        rintro e w1 ⟨rfl, hb⟩
        have B1 := Lib.hid (HB.out.trans (hb.mono HB.out.size)); clear hb
        go_wp2_with fail
        go_roundw
        case rel => exact ⟨k + 1, by omega, by go_num, idxrel_step HV.out ex.out HP.out, B1.out⟩
        case measure => simp [intOf]; omega
    · obtain rfl : k = l.length := by omega
      go_wp2_with fail
      go_ret
      exact ⟨_, rfl, .inl ⟨rfl, fun j y hy => HV.out j y (get_lt hy) hy⟩, HB.out⟩

def CfPost (p : Fr → Bool) (l : List Fr) (w : World) (e : Ending) (w' : World) : Prop := e = .returned (.bool (l.any p)) ∧ Below w.heap.size w w'
set_option maxHeartbeats 1000000 in
theorem cont_put (w : World) (a : Option Addr) (c : Nat) (l : List Fr) (hs : SlF w a l) (hl : l.length ≤ 1000) (nid : Int) (ib : Nat) (hi : Blk w ib 3 [.int .i64 nid]) :
    Calls Try.prog 32 #[.slice a l.length c, .func (.func 33) #[] #[.pointer (some ⟨ib, 0, none⟩)]] w (CfPost (fun y => y.id == nid) l w) := by
  have I := Lib.hid (idx_put w a c l hs hl nid ib hi)
  clear hs hi
  go_enter Try.func32, Try.ntmps32
  go_wp2_with fail
  refine I.out.mono ?_
  rintro e w1 ⟨r, rfl, hr, hb⟩
  have B := Lib.hid hb; clear hb
  rcases hr with ⟨rfl, hno⟩ | ⟨k, x, rfl, hx, hp, _⟩
  · have e1 : Hid (l.any (fun y => y.id == nid) = false) := by
      show _ = _
      rw [List.any_eq_false]
      intro y hy
      obtain ⟨j, hj⟩ := List.mem_iff_getElem?.1 hy
      simpa using hno j y hj
    clear hno
    go_wp2_with fail
    go_ret
    exact ⟨by rw [e1.out]; rfl, B.out⟩
  · have e1 : Hid (l.any (fun y => y.id == nid) = true) := by
      show _ = _
      rw [List.any_eq_true]
      exact ⟨x, List.mem_of_getElem? hx, hp⟩
    clear hp hx
    go_wp2_with fail
    go_ret
    exact ⟨by rw [e1.out]; rfl, B.out⟩
end Go.Proofs.Yteomiofmaopkhaa
