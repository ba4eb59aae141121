/-
  Contracts of the law's great and greats: the bounds of the statements.
-/
import Derived.Test.YtldgpdgoccccpaaBarPtr
namespace Go.Proofs.Ytldgpdgoccccpaa
open Go.RowKit
set_option linter.unusedVariables false

def grB (rs : List (RowOf Bool)) : Bool := rs.any (fun r => decide (10 < r.xs.length)) || decide (10 < rs.length)
theorem grB_false {rs : List (RowOf Bool)} (h : grB rs = false) : rs.length ≤ 10 ∧ ∀ r ∈ rs, r.xs.length ≤ 10 := by
  simp [grB] at h
  exact ⟨h.2, h.1⟩
def Lens (rs : List (RowOf Bool)) : Prop := rs.length ≤ maxLen ∧ ∀ r ∈ rs, r.xs.length ≤ maxLen
theorem lens_of_gr {rs : List (RowOf Bool)} (h : grB rs = false) : Lens rs := by
  obtain ⟨h1, h2⟩ := grB_false h
  exact ⟨by unfold maxLen; omega, fun r hr => by have := h2 r hr; unfold maxLen; omega⟩
def GrRel (rs : List (RowOf Bool)) (w : World) (i : Value) (wr : World) : Prop := ∃ k : Nat, k ≤ rs.length ∧ i = .int .i64 k ∧ (∀ j < k, ∀ r, rs[j]? = some r → r.xs.length ≤ 10) ∧ w = wr

set_option maxHeartbeats 1000000 in
theorem great_any (w : World) (a0 : Option Addr) (c0 : Nat) (rs : List (RowOf Bool)) (h : Req w a0 rs) (hm : Lens rs) :
    Calls Try.prog 17 #[.slice a0 rs.length c0] w fun e w' => e = .returned (.bool (grB rs)) ∧ w = w' := by
  obtain ⟨hm, hmm⟩ := hm
  unfold maxLen at hm
  generalize hR : grB rs = res
  have HR := Lib.hid hR; clear hR
  have S := Lib.hid h.hs; clear h
  have MM := Lib.hid hmm; clear hmm
  generalize hl : rs.length = l at *
  have HL := Lib.hid hl; clear hl
  go_enter Try.func17, Try.ntmps17
  go_wp2_with fail
  go_loopw [7] (fun i wr => GrRel rs w i wr) (fun i _ => l - (intOf i).toNat)
  case atStart => exact ⟨0, Nat.zero_le _, rfl, fun j hj => by omega, rfl⟩
  case round =>
    obtain ⟨k, hk, rfl, hv, rfl⟩ := hrel
    have HV := Lib.hid hv; clear hv
    have hk' : k ≤ l := by rw [HL.out] at hk; exact hk
    clear hk
    by_cases hlt : k < l
    · obtain ⟨r, er, o1, c1⟩ := S.out.get (k := k) (by rw [HL.out]; exact hlt)
      have hrm := MM.out r (List.mem_of_getElem? er.out)
      obtain ⟨ra, rc, rxs⟩ := r
      unfold RowOf.val at c1
      dsimp only at c1 hrm
      unfold maxLen at hrm
      by_cases hrl : (10 : Int) < (rxs.length : Int)
      · have R : Hid (res = true) := by
          show _ = _
          rw [← HR.out]
          simp only [grB, Bool.or_eq_true, List.any_eq_true, decide_eq_true_eq]
          exact .inl ⟨_, List.mem_of_getElem? er.out, by dsimp only; omega⟩
        go_wp2_with fail
        go_ret
        exact ⟨ret_bool R.out.symm, rfl⟩
      · have V2 : Hid (∀ j < k + 1, ∀ r, rs[j]? = some r → r.xs.length ≤ 10) := by
          intro j hj r hr
          by_cases e : j = k
          · subst e; rw [er.out] at hr; obtain rfl := Option.some.inj hr; dsimp only; omega
          · exact HV.out j (by omega) r hr
        go_wp2_with fail
        go_roundw
        case rel => exact ⟨k + 1, by rw [HL.out]; omega, by go_num, V2.out, rfl⟩
        case measure => simp [intOf]; omega
    · have A : Hid (rs.any (fun r => decide (10 < r.xs.length)) = false) := by
        show _ = _
        simp only [List.any_eq_false, decide_eq_true_eq]
        intro r hr
        obtain ⟨j, hj⟩ := List.mem_iff_getElem?.1 hr
        have := HV.out j (by rcases Nat.lt_or_ge j rs.length with h | h; rw [HL.out] at h; omega; simp [List.getElem?_eq_none h] at hj) r hj
        omega
      have R : Hid (decide ((10 : Int) < (l : Int)) = res) := by
        show _ = _
        rw [← HR.out, grB, A.out, HL.out, Bool.false_or]
        exact decide_eq_decide.2 (by omega)
      go_wp2_with fail
      go_ret
      exact ⟨ret_bool R.out, rfl⟩

/-- A list of requests in memory. -/
structure Reqs (w : World) (a : Option Addr) (ls : List (RowOf (RowOf Bool))) : Prop where
  hs : Sl RowOf.val w a ls
  rows : ∀ l ∈ ls, Req w (RowOf.a l) l.xs
theorem Reqs.below {w w' : World} {a : Option Addr} {ls : List (RowOf (RowOf Bool))} (h : Reqs w a ls) (u : Below w.heap.size w w') : Reqs w' a ls := ⟨h.hs.below u, fun r hr => (h.rows r hr).below u⟩
def grsB (ls : List (RowOf (RowOf Bool))) : Bool := decide (20 < ls.length) || ls.any fun l => grB l.xs
theorem grsB_false {ls : List (RowOf (RowOf Bool))} (h : grsB ls = false) : ls.length ≤ 20 ∧ ∀ l ∈ ls, grB l.xs = false := by
  simp [grsB] at h
  exact ⟨h.1, h.2⟩
def IfRel (ls : List (RowOf (RowOf Bool))) (w : World) (i : Value) (wr : World) : Prop := ∃ k : Nat, k ≤ ls.length ∧ i = .int .i64 k ∧ (∀ j < k, ∀ l, ls[j]? = some l → grB l.xs = false) ∧ w = wr
def IfPost (ls : List (RowOf (RowOf Bool))) (w : World) (e : Ending) (w' : World) : Prop := ∃ i : Int, e = .returned (.int .i64 i) ∧ (0 ≤ i ↔ (ls.any fun l => grB l.xs) = true) ∧ w = w'

set_option maxHeartbeats 1000000 in
theorem ifunc_any (w : World) (a0 : Option Addr) (c0 : Nat) (ls : List (RowOf (RowOf Bool))) (h : Reqs w a0 ls) (hm : ls.length ≤ maxLen) (hmm : ∀ l ∈ ls, Lens l.xs) :
    Calls Try.prog 37 #[.slice a0 ls.length c0, .func (.func 17) #[] #[]] w (IfPost ls w) := by
  unfold maxLen at hm
  have S := Lib.hid h; clear h
  have MM := Lib.hid hmm; clear hmm
  generalize hl : ls.length = l at *
  have HL := Lib.hid hl; clear hl
  go_enter Try.func37, Try.ntmps37
  go_wp2_with fail
  go_loopw [8] (fun i wr => IfRel ls w i wr) (fun i _ => l - (intOf i).toNat)
  case atStart => exact ⟨0, Nat.zero_le _, rfl, fun j hj => by omega, rfl⟩
  case round =>
    obtain ⟨k, hk, rfl, hv, rfl⟩ := hrel
    have HV := Lib.hid hv; clear hv
    have hk' : k ≤ l := by rw [HL.out] at hk; exact hk
    clear hk
    by_cases hlt : k < l
    · obtain ⟨r, er, o1, c1⟩ := S.out.hs.get (k := k) (by rw [HL.out]; exact hlt)
      have G := great_any w r.a r.c r.xs (S.out.rows r (List.mem_of_getElem? er.out)) (MM.out r (List.mem_of_getElem? er.out))
      obtain ⟨ra, rc, rxs⟩ := r
      unfold RowOf.val at c1
      dsimp only at c1 G
      cases hg : grB rxs with
      | true =>
        rw [hg] at G
        have G2 := Lib.hid G
        have R : Hid ((ls.any fun l => grB l.xs) = true) := by
          show _ = _
          simp only [List.any_eq_true]
          exact ⟨_, List.mem_of_getElem? er.out, hg⟩
        clear G hg
        go_wp2_with fail
        refine G2.out.mono ?_
        rintro e w1 ⟨rfl, rfl⟩
        go_wp2_with fail
        go_ret
        exact ⟨k, rfl, ⟨fun _ => R.out, fun _ => by omega⟩, rfl⟩
      | false =>
        rw [hg] at G
        have G2 := Lib.hid G
        have V2 : Hid (∀ j < k + 1, ∀ l, ls[j]? = some l → grB l.xs = false) := by
          intro j hj r hr
          by_cases e : j = k
          · subst e; rw [er.out] at hr; obtain rfl := Option.some.inj hr; exact hg
          · exact HV.out j (by omega) r hr
        clear G hg
        go_wp2_with fail
        refine G2.out.mono ?_
        rintro e w1 ⟨rfl, rfl⟩
        go_wp2_with fail
        go_roundw
        case rel => exact ⟨k + 1, by rw [HL.out]; omega, by go_num, V2.out, rfl⟩
        case measure => simp [intOf]; omega
    · have A : Hid ((ls.any fun l => grB l.xs) = false) := by
        show _ = _
        simp only [List.any_eq_false, Bool.not_eq_true]
        intro r hr
        obtain ⟨j, hj⟩ := List.mem_iff_getElem?.1 hr
        exact HV.out j (by rcases Nat.lt_or_ge j ls.length with h | h; rw [HL.out] at h; omega; simp [List.getElem?_eq_none h] at hj) r hj
      go_wp2_with fail
      go_ret
      exact ⟨-1, rfl, ⟨fun h => by omega, fun h => by rw [A.out] at h; exact absurd h (by simp)⟩, rfl⟩

set_option maxHeartbeats 1000000 in
theorem cfunc_any (w : World) (a0 : Option Addr) (c0 : Nat) (ls : List (RowOf (RowOf Bool))) (h : Reqs w a0 ls) (hm : ls.length ≤ maxLen) (hmm : ∀ l ∈ ls, Lens l.xs) :
    Calls Try.prog 28 #[.slice a0 ls.length c0, .func (.func 17) #[] #[]] w fun e w' => e = .returned (.bool (ls.any fun l => grB l.xs)) ∧ w = w' := by
  have I := Lib.hid (ifunc_any w a0 c0 ls h hm hmm)
  generalize hR : (ls.any fun l => grB l.xs) = res at *
  have HR := Lib.hid hR
  clear h hm hmm hR
  go_enter Try.func28, Try.ntmps28
  go_wp2_with fail
  refine I.out.mono ?_
  rintro e w1 ⟨i, rfl, hi, rfl⟩
  have R : Hid (decide (0 ≤ i) = res) := by
    show _ = _
    rw [HR.out] at hi
    cases res <;> simp_all
  clear hi
  go_wp2_with fail
  go_ret
  exact ⟨ret_bool R.out, rfl⟩

set_option maxHeartbeats 1000000 in
theorem greats_any (w : World) (a0 : Option Addr) (c0 : Nat) (ls : List (RowOf (RowOf Bool))) (h : Reqs w a0 ls) (hm : ls.length ≤ maxLen) (hmm : ∀ l ∈ ls, Lens l.xs) :
    Calls Try.prog 12 #[.slice a0 ls.length c0] w fun e w' => e = .returned (.bool (grsB ls)) ∧ w = w' := by
  have C := cfunc_any w a0 c0 ls h hm hmm
  unfold maxLen at hm
  unfold grsB
  generalize (ls.any fun l => grB l.xs) = r at *
  have C2 := Lib.hid C
  clear C h hmm
  by_cases hlt : 20 < ls.length
  · have hd : decide (20 < ls.length) = true := by simpa using hlt
    have hi : (20 : Int) < (ls.length : Int) := by omega
    rw [hd]
    clear hd
    go_enter Try.func12, Try.ntmps12
    go_wp2_with fail
    go_ret
    exact ⟨rfl, rfl⟩
  · have hd : decide (20 < ls.length) = false := by simpa using hlt
    have hi : ¬ (20 : Int) < (ls.length : Int) := by omega
    rw [hd, Bool.false_or]
    clear hd
    go_enter Try.func12, Try.ntmps12
    go_wp2_with fail
    refine C2.out.mono ?_
    rintro e w1 ⟨rfl, rfl⟩
    go_wp2_with fail
    go_ret
    exact ⟨rfl, rfl⟩
end Go.Proofs.Ytldgpdgoccccpaa
