/-
  Contracts that BranchReady and BranchDrains ask: the closure, a list of truth values, steps behind a run.
-/
import Derived.Test.YteomiofmaopkhaaRan
namespace Go.Proofs.Yteomiofmaopkhaa
open Go.RowKit
set_option linter.unusedVariables false

theorem rdy1_any (x : Int) (w : World) : Calls Try.prog 31 #[.int .i64 x] w fun e w' => e = .returned (.bool (x != -1)) ∧ w = w' := by
  go_enter Try.func31, Try.ntmps31
  go_wp2
  go_ret
  exact ⟨rfl, rfl⟩
def NgRel (n : Nat) (w : World) (i : Value) (wr : World) : Prop := ∃ k : Nat, k ≤ n ∧ i = .int .i64 k ∧ Below w.heap.size w wr
set_option maxHeartbeats 2000000 in
theorem idx_neg (w : World) (a : Option Addr) (n c : Nat) (hs : SlI w a (List.replicate n (-1))) (hl : n ≤ 1000) :
    Calls Try.prog 41 #[.slice a n c, .func (.func 31) #[] #[]] w fun e w' => e = .returned (.int .i64 (-1)) ∧ Below w.heap.size w w' := by
  have S := Lib.hid hs
  clear hs
  have P : Hid (∀ w, Calls Try.prog 31 #[.int .i64 (-1)] w fun e w' => e = .returned (.bool false) ∧ w = w') := fun w => rdy1_any (-1) w
  go_enter Try.func41, Try.ntmps41
  go_wp2_with fail
  go_loopw [8] (fun i wr => NgRel n w i wr) (fun i _ => n - (intOf i).toNat)
  case atStart => exact ⟨0, Nat.zero_le _, rfl, Below.refl _ _⟩
  case round =>
    obtain ⟨k, hk, rfl, hb⟩ := hrel
    have HB := Lib.hid hb
    clear hb
    by_cases hlt : k < n
    · obtain ⟨okx, cx⟩ := (S.out.below HB.out) k (-1) (by simp [hlt])
      go_wp2_with fail
      refine (P.out _).mono ?_
      rintro e w1 ⟨rfl, rfl⟩
      go_wp2_with fail
      go_roundw
      case rel => exact ⟨k + 1, by omega, by go_num, HB.out⟩
      case measure => simp [intOf]; omega
    · go_wp2_with fail
      go_ret
      exact ⟨rfl, HB.out⟩
theorem cont_neg (w : World) (a : Option Addr) (n c : Nat) (hs : SlI w a (List.replicate n (-1))) (hl : n ≤ 1000) :
    Calls Try.prog 30 #[.slice a n c, .func (.func 31) #[] #[]] w fun e w' => e = .returned (.bool false) ∧ Below w.heap.size w w' := by
  have I := Lib.hid (idx_neg w a n c hs hl)
  clear hs
  go_enter Try.func30, Try.ntmps30
  go_wp2_with fail
  refine I.out.mono ?_
  rintro e w1 ⟨rfl, hb⟩
  have B := Lib.hid hb; clear hb
  go_wp2_with fail
  go_ret
  exact ⟨rfl, B.out⟩
theorem make_bools (w : World) (n : Nat) (h : n ≤ 1000000) : (Instr.makeSlice 23 (.int .i64 n) (.int .i64 n)).run Try.prog w =
    .ok (.slice (some ⟨w.heap.size, 0, none⟩) n n) (w.alloc (.cells ((List.replicate n false).map Value.bool).toArray 4)) := by
  obtain ⟨i, hi, hz, hs, hb⟩ := info_parts Try.infoBool
  rw [run_make w 23 4 i _ Try.underlying23 hi hz .i64 .i64 n n (by omega) (by omega) (by rw [hb]; omega) (by omega)]
  have e : madeCells (Value.bool false).cells (((n : Int).toNat) * i.size) = ((List.replicate n false).map Value.bool).toArray := by
    rw [hs, Nat.mul_one, Int.toNat_natCast]
    apply Array.toList_inj.1
    rw [show (Value.bool false).cells = #[Value.bool false] from rfl, toList_madeCells_one]
    simp
  rw [e, Int.toNat_natCast]
section
variable {w0 wc : World} {o n : Nat} {room : Int} {st : RunSt} {b ml : Nat} {ap : Option Addr} {cp : Nat} {w : World}
/-- Behind a step without ready outputs. -/
def Idle (w0 : World) (o : Nat) (room : Int) (st : RunSt) (b ml : Nat) (ap : Option Addr) (cp : Nat) (H : Nat) (w : World) (e : Ending) (w' : World) : Prop :=
  e = .returned (.slice (some ⟨w.heap.size, 0, none⟩) o o) ∧ Blk w' w.heap.size 3 ((List.replicate o (-1)).map (Value.int .i64)) ∧ Ran w0 o room st b ml ap cp w' ∧ Upd (fun j => w0.heap.size ≤ j ∧ j < H) w w' ∧ w0.heap.size ≤ w.heap.size
theorem step_idle (h : Ran w0 o room st b ml ap cp wc) (hw : Below wc.heap.size wc w) (hi : RunInv o room n st) (hh : HoldSt o st.fs) (h64 : room ≤ 64) (ho1 : 1 ≤ o) (ho : o ≤ 8) (a : Option Addr) (c : Nat) (hs : SlB w a (List.replicate o false)) (hn : n ≤ 1000) (hab : wc.heap.size ≤ (a.getD default).block) :
    Calls Try.prog 20 #[.pointer (some ⟨b, 0, none⟩), .slice a o c] w (Idle w0 o room st b ml ap cp wc.heap.size w) := by
  obtain ⟨v, prow, rows, col, hM0, hP, hL⟩ := h
  have hM := hM0.below hw 3
  have hfr := hi.fr; have hcnt := hi.cnt; have hpk := hi.pk
  have hlt : ∀ j, fkS b v j → w0.heap.size ≤ j ∧ j < wc.heap.size := fun j hj => ⟨(hM0.hF.f_lt hj).2, (hM0.hF.f_lt hj).1⟩
  refine (step_any w _ b o room v st.fs st.freed hM.hF a c (List.replicate o false) hs (by simp) ho ho1 (by omega) hi.b8 hi.f0 (by omega) (fun hj => by have := (hlt _ hj).2; omega)).mono ?_
  rintro e w' ⟨v', he, hr, hF, hU, hv⟩
  rw [stepAll_none] at hr hF
  dsimp only at hr hF
  rw [hh.keep, show st.freed + ((st.fs.length : Int) - st.fs.length) = st.freed by omega] at hF
  exact ⟨he, hr, ⟨v', prow, rows, _, hM.fork hU hF (.inl hv), hP, hL⟩, hU.mono fun k _ hk => hlt k hk, hM.hB⟩
theorem step_wrong (h : Ran w0 o room st b ml ap cp w) (a : Option Addr) (m c : Nat) (hm : ¬ m = o) :
    Calls Try.prog 20 #[.pointer (some ⟨b, 0, none⟩), .slice a m c] w fun e w' => e = .returned (.slice none 0 0) ∧ w = w' := by
  obtain ⟨v, hF⟩ := h.fork
  exact step_bad w _ b o room v st.fs st.freed hF a m c (by omega)
end
/-- A store into a row of the call's own. -/
theorem Rw.set {α : Type} {f : α → Value} {T : TypeId} {w : World} {base : Nat} {a : Option Addr} {n c : Nat} {xs : List α} (h : Rw f T w base (.slice a n c) xs) {k : Nat} (hk : k < xs.length) (x : α) :
    Rw f T (w.setCell (adr a k) (f x)) base (.slice a n c) (xs.set k x) ∧ base ≤ (adr a k).block ∧ w.frozen? (adr a k) = false := by
  obtain ⟨a', c', e, h⟩ := h
  cases e
  rcases h with ⟨rfl, rfl, _⟩ | ⟨g, sp, rfl, hg, hb, h1, h2⟩
  · simp at hk
  · have hb' := hb.setL hk x
    rw [adr_mk, Nat.zero_add]
    exact ⟨⟨_, _, by rw [List.length_set], .inr ⟨g, sp, rfl, hg, hb', by rw [List.length_set]; exact h1, h2⟩⟩, hg, hb.free k⟩
end Go.Proofs.Yteomiofmaopkhaa
