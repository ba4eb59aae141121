/-
  switchbox: boxes that cannot be made, nil boxes, wrong ports; the overflows; what the reference permits.
-/
import Derived.Test.YtkooihniieepcaaSwQ
import Derived.Test.YtkooihniieepcaaSwO
namespace Go.Proofs.Ytkooihniieepcaa
open Go.RowKit
set_option linter.unusedVariables false

def okBoxB (P : Int) (zs : List Int) : Bool := decide (1 ≤ P ∧ P ≤ 8 ∧ 1 ≤ zs.length ∧ zs.length ≤ 8 ∧ ∀ z ∈ zs, 1 ≤ z ∧ z ≤ 64)
theorem okBoxB_true {P : Int} {zs : List Int} : okBoxB P zs = true ↔ OkBox P zs := by
  unfold okBoxB
  rw [decide_eq_true_iff]
  exact ⟨fun ⟨h1, h2, h3, h4, h5⟩ => ⟨h1, h2, h3, h4, h5⟩, fun ⟨h1, h2, h3, h4, h5⟩ => ⟨h1, h2, h3, h4, h5⟩⟩
section
variable {w : World} {a : Option Addr} {c0 : Nat} {zs : List Int} {P : Int}
set_option maxHeartbeats 4000000 in
set_option maxRecDepth 100000 in
theorem new_no (hs : SlI w a zs) (hm : zs.length ≤ maxLen) (hno : ¬ OkBox P zs) : Calls Try.prog 15 #[.int .i64 P, .slice a zs.length c0] w fun e w' => e = .returned (.tuple #[.pointer none, .int .i64 2]) ∧ w = w' := by
  have S := Lib.hid hs
  have NO := Lib.hid hno
  clear hs hno
  unfold maxLen at hm
  by_cases h1 : P < 1
  · go_enter Try.func15, Try.ntmps15
    go_wp2_with fail
    go_ret2
    exact ⟨rfl, rfl⟩
  by_cases h2 : 8 < P
  · go_enter Try.func15, Try.ntmps15
    go_wp2_with fail
    go_ret2
    exact ⟨rfl, rfl⟩
  obtain ⟨K, hK⟩ : ∃ K, zs.length = K := ⟨_, rfl⟩
  rw [hK] at hm ⊢
  have HK := Lib.hid hK
  clear hK
  by_cases h3 : (K : Int) < 1
  · go_enter Try.func15, Try.ntmps15
    go_wp2_with fail
    go_ret2
    exact ⟨rfl, rfl⟩
  by_cases h4 : (8 : Int) < (K : Int)
  · go_enter Try.func15, Try.ntmps15
    go_wp2_with fail
    go_ret2
    exact ⟨rfl, rfl⟩
  go_enter Try.func15, Try.ntmps15
  go_wp2_with fail
  go_loopw [36] (fun iv wr => NvRel w zs iv wr) (fun iv _ => K - (intOf iv).toNat)
  case atStart => exact ⟨0, Nat.zero_le _, rfl, fun j z hj => absurd hj (Nat.not_lt_zero _), rfl⟩
  case round =>
    obtain ⟨k, hk, rfl, hv, rfl⟩ := hrel
    rw [HK.out] at hk
    have HV := Lib.hid hv
    clear hv
    by_cases hlt : k < K
    · obtain ⟨z, ez, okz, cz⟩ := S.out.get (k := k) (by rw [HK.out]; exact hlt)
      by_cases hz1 : z < 1
      · go_wp2_with fail
        go_ret2
        exact ⟨rfl, rfl⟩
      by_cases hz2 : 64 < z
      · go_wp2_with fail
        go_ret2
        exact ⟨rfl, rfl⟩
      go_wp2_with fail
      go_roundw
      case rel =>
        refine ⟨k + 1, by rw [HK.out]; omega, by go_num, fun j z' hj hz => ?_, rfl⟩
        by_cases e : j = k
        · rw [e, ez.out] at hz
          cases hz
          omega
        · exact HV.out j z' (by omega) hz
      case measure => simp [intOf]; omega
    · obtain rfl : k = K := by omega
      exfalso
      refine NO.out ⟨by omega, by omega, by rw [HK.out]; omega, by rw [HK.out]; omega, fun z hz => ?_⟩
      obtain ⟨j, hj⟩ := List.mem_iff_getElem?.1 hz
      exact HV.out j z (by have := get_lt hj; rw [HK.out] at this; exact this) hj
set_option maxHeartbeats 4000000 in
set_option maxRecDepth 100000 in
theorem valid_any (hs : SlI w a zs) (hm : zs.length ≤ maxLen) : Calls Try.prog 26 #[.int .i64 P, .slice a zs.length c0] w fun e w' => e = .returned (.bool (okBoxB P zs)) ∧ w = w' := by
  have S := Lib.hid hs
  clear hs
  unfold maxLen at hm
  have NF : ¬ OkBox P zs → okBoxB P zs = false := fun h => by
    cases e : okBoxB P zs with
    | false => rfl
    | true => exact absurd (okBoxB_true.1 e) h
  by_cases h1 : P < 1
  · have e := NF (fun h => by have := h.p1; omega)
    rw [e]
    clear e NF
    go_enter Try.func26, Try.ntmps26
    go_wp2_with fail
    go_ret
    exact ⟨rfl, rfl⟩
  by_cases h2 : 8 < P
  · have e := NF (fun h => by have := h.p8; omega)
    rw [e]
    clear e NF
    go_enter Try.func26, Try.ntmps26
    go_wp2_with fail
    go_ret
    exact ⟨rfl, rfl⟩
  by_cases h3 : (zs.length : Int) < 1
  · have e := NF (fun h => by have := h.k1; omega)
    rw [e]
    clear e NF
    go_enter Try.func26, Try.ntmps26
    go_wp2_with fail
    go_ret
    exact ⟨rfl, rfl⟩
  by_cases h4 : (8 : Int) < (zs.length : Int)
  · have e := NF (fun h => by have := h.k8; omega)
    rw [e]
    clear e NF
    go_enter Try.func26, Try.ntmps26
    go_wp2_with fail
    go_ret
    exact ⟨rfl, rfl⟩
  obtain ⟨b, hb⟩ : ∃ b, okBoxB P zs = b := ⟨_, rfl⟩
  have HB := Lib.hid hb
  have HNF := Lib.hid NF
  rw [hb]
  clear hb NF
  obtain ⟨K, hK⟩ : ∃ K, zs.length = K := ⟨_, rfl⟩
  rw [hK] at hm h3 h4 ⊢
  have HK := Lib.hid hK
  clear hK
  go_enter Try.func26, Try.ntmps26
  go_wp2_with fail
  go_loopw [5] (fun iv wr => NvRel w zs iv wr) (fun iv _ => K - (intOf iv).toNat)
  case atStart => exact ⟨0, Nat.zero_le _, rfl, fun j z hj => absurd hj (Nat.not_lt_zero _), rfl⟩
  case round =>
    obtain ⟨k, hk, rfl, hv, rfl⟩ := hrel
    rw [HK.out] at hk
    have HV := Lib.hid hv
    clear hv
    by_cases hlt : k < K
    · obtain ⟨z, ez, okz, cz⟩ := S.out.get (k := k) (by rw [HK.out]; exact hlt)
      have hki : (k : Int) < (K : Int) := by omega
      by_cases hz1 : z < 1
      · have BF : Hid (b = false) := Lib.hid (by
          rw [← HB.out]
          exact HNF.out (fun h => by have := (h.z z (List.mem_of_getElem? ez.out)).1; omega))
        go_wp2_with fail
        go_ret
        exact ⟨ret_bool BF.out.symm, rfl⟩
      by_cases hz2 : 64 < z
      · have BF : Hid (b = false) := Lib.hid (by
          rw [← HB.out]
          exact HNF.out (fun h => by have := (h.z z (List.mem_of_getElem? ez.out)).2; omega))
        go_wp2_with fail
        go_ret
        exact ⟨ret_bool BF.out.symm, rfl⟩
      go_wp2_with fail
      go_roundw
      case rel =>
        refine ⟨k + 1, by rw [HK.out]; omega, by go_num, fun j z' hj hz => ?_, rfl⟩
        by_cases e : j = k
        · rw [e, ez.out] at hz
          cases hz
          omega
        · exact HV.out j z' (by omega) hz
      case measure => simp [intOf]; omega
    · obtain rfl : k = K := by omega
      have BT : Hid (b = true) := Lib.hid (by
        rw [← HB.out, okBoxB_true]
        refine ⟨by omega, by omega, by rw [HK.out]; omega, by rw [HK.out]; omega, fun z hz => ?_⟩
        obtain ⟨j, hj⟩ := List.mem_iff_getElem?.1 hz
        exact HV.out j z (by have := get_lt hj; rw [HK.out] at this; exact this) hj)
      go_wp2_with fail
      go_ret
      exact ⟨ret_bool BT.out.symm, rfl⟩
end
section
variable {w w' : World} {base P K : Nat} {L : Loc} {M : Md}
set_option maxHeartbeats 2000000 in
theorem over_ok (h : BoxAt w base P K L M) : Calls Try.prog 25 #[.pointer (some ⟨L.bb, 0, none⟩)] w fun e w' => e = .returned (.int .i64 0) ∧ w = w' := by
  have c0 := h.cO
  clear h
  go_enter Try.func25, Try.ntmps25
  go_wp2_with fail
  go_ret
  exact ⟨rfl, rfl⟩
set_option maxHeartbeats 2000000 in
theorem over_nil (w : World) : Calls Try.prog 25 #[.pointer none] w fun e w' => e = .returned (.int .i64 0) ∧ w = w' := by
  go_enter Try.func25, Try.ntmps25
  go_wp2_with fail
  go_ret
  exact ⟨rfl, rfl⟩
set_option maxHeartbeats 2000000 in
theorem limit_nil (w : World) (p c : Int) : Calls Try.prog 21 #[.pointer none, .int .i64 p, .int .i64 c] w fun e w' => e = .returned (.int .i64 0) ∧ w = w' := by
  go_enter Try.func21, Try.ntmps21
  go_wp2_with fail
  go_ret
  exact ⟨rfl, rfl⟩
set_option maxHeartbeats 2000000 in
theorem queue_nil (w : World) (p c : Int) : Calls Try.prog 23 #[.pointer none, .int .i64 p, .int .i64 c] w fun e w' => e = .returned (.slice none 0 0) ∧ w = w' := by
  go_enter Try.func23, Try.ntmps23
  go_wp2_with fail
  go_ret
  exact ⟨rfl, rfl⟩
set_option maxHeartbeats 2000000 in
theorem raise_nil (w : World) (p c n : Int) : Calls Try.prog 17 #[.pointer none, .int .i64 p, .int .i64 c, .int .i64 n] w fun e w' => e = .returned (.int .i64 1) ∧ w = w' := by
  go_enter Try.func17, Try.ntmps17
  go_wp2_with fail
  go_ret
  exact ⟨rfl, rfl⟩
set_option maxHeartbeats 2000000 in
theorem arrive_nil (w : World) (p : Int) (f : Fr) : Calls Try.prog 16 #[.pointer none, .int .i64 p, frV f] w fun e w' => e = .returned (.int .i64 1) ∧ Below w.heap.size w w' := by
  unfold frV
  go_enter Try.func16, Try.ntmps16
  go_wp2_with fail
  go_ret
  exact ⟨rfl, (Below.refl _ _).alloc (Nat.le_refl _) _⟩
set_option maxHeartbeats 4000000 in
theorem arrive_no (p : Int) (f : Fr) (h : BoxAt w base P K L M) (hn : ¬ (0 ≤ p ∧ p < P ∧ 0 ≤ f.cls ∧ f.cls < K)) : Calls Try.prog 16 #[.pointer (some ⟨L.bb, 0, none⟩), .int .i64 p, frV f] w fun e w' => e = .returned (.int .i64 2) ∧ Below w.heap.size w w' := by
  obtain ⟨fid, ffr, fds, fcl, fep⟩ := f
  have h1 := h.below ((Below.refl _ w).alloc (Nat.le_refl _) (.cells #[.int .i64 fid, .int .i64 ffr, .int .i64 fds, .int .i64 fcl, .int .i64 fep, .slice none 0 0] 39))
  have HN := Lib.hid (has_no p fcl h1 hn)
  clear h1 h hn
  unfold frV
  go_enter Try.func16, Try.ntmps16
  go_wp2_with fail
  refine HN.out.mono ?_
  rintro e w1 ⟨rfl, rfl⟩
  go_wp2_with fail
  go_ret
  exact ⟨rfl, (Below.refl _ _).alloc (Nat.le_refl _) _⟩
set_option maxHeartbeats 4000000 in
set_option maxRecDepth 100000 in
theorem step_nil (w : World) (fn : Value) (hfn : ∃ fid caps, fn = .func (.func fid) #[] caps) : Calls Try.prog 18 #[.pointer none, fn] w fun e w' => e = .returned (.tuple #[.slice none 0 0, .slice none 0 0]) ∧ Below w.heap.size w w' := by
  obtain ⟨fid, caps, rfl⟩ := hfn
  refine calls_of_wp_calm Try.func18 rfl ?_
  simp only [Try.ntmps18, List.size_toArray, List.length_cons, List.length_nil, Nat.reduceAdd, Nat.reduceSub, Array.replicate_succ, Array.replicate_zero, List.push_toArray, List.append_toArray, List.nil_append, List.cons_append]
  go_wp2_with fail
  refine ⟨.tuple #[.slice none 0 0, .slice none 0 0], ?_, rfl, ?_⟩
  · simp [results, Try.results18, go_sem]
  · exact (((Below.refl _ w).alloc (Nat.le_refl _) _).alloc (by simp) _).alloc (by simp; omega) _
end
end Go.Proofs.Ytkooihniieepcaa
