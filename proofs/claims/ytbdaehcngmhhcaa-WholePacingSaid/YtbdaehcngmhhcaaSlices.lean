/-
  Contracts of functions of package slices, at the element types that this program uses.
-/
import Derived.Test.YtbdaehcngmhhcaaOwn
namespace Go.Proofs.Ytbdaehcngmhhcaa
open Go.RowKit

theorem Try.infoInt : (Try.prog.info? 3).map (fun i => (i.zero, i.size, i.bytes)) = some (some (.int .i64 0), 1, 8) := by kernel_rfl

theorem Try.infoBool : (Try.prog.info? 4).map (fun i => (i.zero, i.size, i.bytes)) = some (some (.bool false), 1, 1) := by kernel_rfl

set_option maxHeartbeats 1000000 in
theorem cloneInt_any (w : World) (a : Option Addr) (c : Nat) (xs : List Int) (hs : Sl (Value.int .i64) w a xs) (hl : xs.length ≤ 1000000) :
    Calls Try.prog 44 #[.slice a xs.length c] w fun e w' => ∃ v, e = .returned v ∧ Rw (Value.int .i64) 3 w' w.heap.size v xs ∧ Below w.heap.size w w' := by
  show Calls _ _ _ _ (RwPost (Value.int .i64) 3 w xs)
  cases a with
  | none =>
    have h0 : xs = [] := by
      match xs, hs with
      | [], _ => rfl
      | x :: l, hs => exact absurd (hs 0 x rfl).1 (by simp [okAd])
    subst h0
    have he := fun w => Lib.run_eql_slice_nil (P := Try.prog) w 33 _ none 0 c 0 0 Try.underlying33
    go_enter Try.func44, Try.ntmps44
    go_wp2
    go_ret
    exact ⟨_, rfl, Rw.nil _ _ _ _, Below.refl _ _⟩
  | some ad =>
    have he := fun w => Lib.run_eql_slice_nil (P := Try.prog) w 33 _ (some ad) xs.length c 0 0 Try.underlying33
    have hl1 := Lib.hid hl
    have HS := Lib.hid hs
    clear hs hl
    obtain ⟨i0, hi, hz0, hz1, hz2⟩ := info_parts Try.infoInt
    have HI := Lib.hid hi; have HZ0 := Lib.hid hz0; have HZ1 := Lib.hid hz1; have HZ2 := Lib.hid hz2
    clear hi hz0 hz1 hz2
    go_enter Try.func44, Try.ntmps44
    go_wp2_with (at_builtin; refine wpList_append_own _ rfl _ _ 33 rfl w.heap.size 3 i0 _ 1 8 Try.underlying33 HI.out HZ0.out HZ1.out HZ2.out rfl (by decide) _ 0 [] rfl ?c0 ad xs.length c (xs.map (Value.int .i64)) rfl ?c1 ?c2 ?c3 ?c4 ?c5 ?c6 ?_)
    case c0 => exact own_empty _ _ _
    case c1 => simp
    case c2 => exact (HS.out.below ((Below.refl _ _).alloc (Nat.le_refl _) _)).news
    case c3 => exact one_map _ (fun _ => rfl) _
    case c4 => have := hl1.out; unfold maxLen; omega
    case c5 => have := hl1.out; omega
    case c6 => simp
    intro v' w1 hown hgr hnil
    have R := Rw.of_own (f := (Value.int .i64)) (by simpa using hown)
    have B : Below w.heap.size w w1 := ((Below.refl _ _).alloc (Nat.le_refl _) _).grown hgr (by simp) (by intro k hk; simp [Value.ownBlock] at hk; omega)
    have HR := Lib.hid R
    clear hown hgr hnil R
    go_wp2
    go_ret
    exact ⟨_, rfl, HR.out, B⟩

def IdxPostInt (w : World) (xs : List Int) (x : Int) (e : Ending) (w' : World) : Prop := ∃ r : Int, e = .returned (.int .i64 r) ∧ (0 ≤ r ↔ x ∈ xs) ∧ w' = w
set_option maxHeartbeats 1000000 in
theorem indexInt_any (w : World) (a : Option Addr) (c : Nat) (xs : List Int) (x : Int) (hx : Sl (Value.int .i64) w a xs) (hl : xs.length ≤ maxLen) :
    Calls Try.prog 54 #[.slice a xs.length c, (Value.int .i64) x] w (IdxPostInt w xs x) := by
  unfold maxLen at hl
  have HX := Lib.hid hx; clear hx
  generalize hn : xs.length = n at *
  have HN := Lib.hid hn; clear hn
  go_enter Try.func54, Try.ntmps54
  go_wp2
  go_loop [8] (fun i => ∃ k : Nat, k ≤ n ∧ i = .int .i64 k ∧ Hid (x ∉ xs.take k)) (fun i => n - (intOf i).toNat)
  case atStart => exact ⟨0, Nat.zero_le _, rfl, by show _ ∉ _; simp⟩
  case round =>
    obtain ⟨k, hk, rfl, ht⟩ := hrel
    by_cases hkn : k < n
    · obtain ⟨y, ey, oky, cy⟩ := HX.out.get (k := k) (by rw [HN.out]; exact hkn)
      by_cases hxy : x = y
      · have hb : (x == y) = true := by simp [hxy]
        have hmem : Hid (x ∈ xs) := by rw [hxy]; exact List.mem_of_getElem? ey.out
        have HXY := Lib.hid hxy; clear hxy
        go_wp2
        go_ret
        exact ⟨k, rfl, ⟨fun _ => hmem.out, fun _ => by omega⟩, rfl⟩
      · have hb : (x == y) = false := by simp [hxy]
        have HT' : Hid (x ∉ xs.take (k + 1)) := by
          show _ ∉ _
          rw [List.take_add_one, ey.out]
          simp only [Option.toList_some, List.mem_append, List.mem_singleton]
          intro h
          rcases h with h | h
          · exact ht.out h
          · exact hxy h
        clear hxy
        go_wp2
        go_round
        case rel => exact ⟨k + 1, by omega, by go_num, HT'⟩
        case measure => simp [intOf]; omega
    · have hmem : Hid (x ∉ xs) := by
        have h1 := ht.out
        have e1 := HN.out
        rwa [List.take_of_length_le (by omega)] at h1
      go_wp2
      go_ret
      exact ⟨-1, rfl, ⟨fun h => by omega, fun h => absurd h hmem.out⟩, rfl⟩

set_option maxHeartbeats 1000000 in
theorem containsInt_any (w : World) (a : Option Addr) (c : Nat) (xs : List Int) (x : Int) (hx : Sl (Value.int .i64) w a xs) (hl : xs.length ≤ maxLen) :
    Calls Try.prog 33 #[.slice a xs.length c, (Value.int .i64) x] w fun e w' => e = .returned (.bool (decide (x ∈ xs))) ∧ w' = w := by
  have C := indexInt_any w a c xs x hx hl
  generalize hR : decide (x ∈ xs) = r
  have HR := Lib.hid hR; clear hR hx
  have HC := Lib.hid C; clear C
  go_enter Try.func33, Try.ntmps33
  go_wp2_with fail
  refine HC.out.mono ?_
  rintro e w1 ⟨i, rfl, hi, rfl⟩
  have hr : Hid (decide (0 ≤ i) = r) := by
    show _ = _
    rw [← HR.out]
    exact decide_eq_decide.2 hi
  clear hi
  go_wp2
  go_ret
  exact ⟨ret_bool hr.out, rfl⟩

def IdxPostBool (w : World) (xs : List Bool) (x : Bool) (e : Ending) (w' : World) : Prop := ∃ r : Int, e = .returned (.int .i64 r) ∧ (0 ≤ r ↔ x ∈ xs) ∧ w' = w
set_option maxHeartbeats 1000000 in
theorem indexBool_any (w : World) (a : Option Addr) (c : Nat) (xs : List Bool) (x : Bool) (hx : Sl Value.bool w a xs) (hl : xs.length ≤ maxLen) :
    Calls Try.prog 55 #[.slice a xs.length c, Value.bool x] w (IdxPostBool w xs x) := by
  unfold maxLen at hl
  have HX := Lib.hid hx; clear hx
  generalize hn : xs.length = n at *
  have HN := Lib.hid hn; clear hn
  go_enter Try.func55, Try.ntmps55
  go_wp2
  go_loop [8] (fun i => ∃ k : Nat, k ≤ n ∧ i = .int .i64 k ∧ Hid (x ∉ xs.take k)) (fun i => n - (intOf i).toNat)
  case atStart => exact ⟨0, Nat.zero_le _, rfl, by show _ ∉ _; simp⟩
  case round =>
    obtain ⟨k, hk, rfl, ht⟩ := hrel
    by_cases hkn : k < n
    · obtain ⟨y, ey, oky, cy⟩ := HX.out.get (k := k) (by rw [HN.out]; exact hkn)
      by_cases hxy : x = y
      · have hb : (x == y) = true := by simp [hxy]
        have hmem : Hid (x ∈ xs) := by rw [hxy]; exact List.mem_of_getElem? ey.out
        have HXY := Lib.hid hxy; clear hxy
        go_wp2
        go_ret
        exact ⟨k, rfl, ⟨fun _ => hmem.out, fun _ => by omega⟩, rfl⟩
      · have hb : (x == y) = false := by simp [hxy]
        have HT' : Hid (x ∉ xs.take (k + 1)) := by
          show _ ∉ _
          rw [List.take_add_one, ey.out]
          simp only [Option.toList_some, List.mem_append, List.mem_singleton]
          intro h
          rcases h with h | h
          · exact ht.out h
          · exact hxy h
        clear hxy
        go_wp2
        go_round
        case rel => exact ⟨k + 1, by omega, by go_num, HT'⟩
        case measure => simp [intOf]; omega
    · have hmem : Hid (x ∉ xs) := by
        have h1 := ht.out
        have e1 := HN.out
        rwa [List.take_of_length_le (by omega)] at h1
      go_wp2
      go_ret
      exact ⟨-1, rfl, ⟨fun h => by omega, fun h => absurd h hmem.out⟩, rfl⟩

set_option maxHeartbeats 1000000 in
theorem containsBool_any (w : World) (a : Option Addr) (c : Nat) (xs : List Bool) (x : Bool) (hx : Sl Value.bool w a xs) (hl : xs.length ≤ maxLen) :
    Calls Try.prog 37 #[.slice a xs.length c, Value.bool x] w fun e w' => e = .returned (.bool (decide (x ∈ xs))) ∧ w' = w := by
  have C := indexBool_any w a c xs x hx hl
  generalize hR : decide (x ∈ xs) = r
  have HR := Lib.hid hR; clear hR hx
  have HC := Lib.hid C; clear C
  go_enter Try.func37, Try.ntmps37
  go_wp2_with fail
  refine HC.out.mono ?_
  rintro e w1 ⟨i, rfl, hi, rfl⟩
  have hr : Hid (decide (0 ≤ i) = r) := by
    show _ = _
    rw [← HR.out]
    exact decide_eq_decide.2 hi
  clear hi
  go_wp2
  go_ret
  exact ⟨ret_bool hr.out, rfl⟩

end Go.Proofs.Ytbdaehcngmhhcaa