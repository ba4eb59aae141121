/-
  Contract of the closure 'consider' of waterfill's level.
-/
import Derived.Test.YtbdaehcngmhhcaaNet
namespace Go.Proofs.Ytbdaehcngmhhcaa
open Go.RowKit
set_option linter.unusedVariables false

/-- The least value so far, when r is considered. -/
def consP (fnd : Bool) (least r : Rq) : Bool := !fnd || decide (r.cmp least < 0)
def CnPost (w : World) (fk lk : Nat) (fnd : Bool) (least r : Rq) (e : Ending) (w' : World) : Prop :=
  e = .returned (.tuple #[]) ∧ Blk w' fk 4 [.bool (fnd || consP fnd least r)] ∧ Blk w' lk 29 (rC (if consP fnd least r then r else least)) ∧ Upd (fun k => k = fk ∨ k = lk) w w'
set_option maxRecDepth 100000 in
set_option maxHeartbeats 2000000 in
theorem consider_any (w : World) (fk lk : Nat) (fnd : Bool) (least r : Rq) (hf : Blk w fk 4 [.bool fnd]) (hl : Blk w lk 29 (rC least)) (hne : fk ≠ lk) (hr : r.ok = true) (hlo : fnd = true → least.ok = true) :
    Calls Try.prog 56 #[rV r, .pointer (some ⟨fk, 0, none⟩), .pointer (some ⟨lk, 0, none⟩)] w (CnPost w fk lk fnd least r) := by
  have UA : Hid (∀ o, Upd (fun k => k = fk ∨ k = lk) w (w.alloc o)) := fun o => (Upd.refl _ w).alloc o
  have hf0 := hf.cell (i := 0) rfl
  have hl0 := hl.cell (i := 0) rfl
  have hl1 := hl.cell (i := 1) rfl
  have zf := hf.lt
  have zl := hl.lt
  have HF := Lib.hid hf
  have HL := Lib.hid hl
  cases fnd with
  | false =>
    have e1 : consP false least r = true := rfl
    have ff := hf.free
    have fl := hl.free
    clear hf hl hlo
    unfold CnPost
    rw [e1]
    unfold rV
    go_enter Try.func56, Try.ntmps56
    go_wp2_with fail
    go_end0
    exact ⟨rfl, (((HF.out.setO _ hne).setO _ hne).set 0 _).alloc _, (((HL.out.set 0 _).set 1 _).setO _ hne.symm).alloc _, ((((Upd.refl _ w).setCell _ _ fun _ => .inr rfl).setCell _ _ fun _ => .inr rfl).setCell _ _ fun _ => .inl rfl).alloc _⟩
  | true =>
    have CM := fun w => cmp_any r least w hr (hlo rfl)
    have e1 : consP true least r = decide (r.cmp least < 0) := rfl
    clear hf hl hlo
    unfold CnPost
    rw [e1]
    unfold rV at CM ⊢
    generalize r.cmp least = cm at *
    replace CM := Lib.hid CM
    by_cases hc : cm < 0
    · rw [decide_eq_true hc]
      go_enter Try.func56, Try.ntmps56
      go_wp2_with fail
      refine (CM.out _).mono ?_
      rintro e w1 ⟨rfl, hb⟩
      have bf := (HF.out.alloc _).bel hb
      have bl := (HL.out.alloc _).bel hb
      have x := (Blk.new w 29 [.int .i64 r.n, .int .i64 r.d]).bel hb
      have U1 := Lib.hid (Upd.then (UA.out _) (Upd.of_below (S := fun k => k = fk ∨ k = lk) hb) (fun _ _ h => h))
      have hf0 := bf.cell (i := 0) rfl
      have hl0 := bl.cell (i := 0) rfl
      have hl1 := bl.cell (i := 1) rfl
      have x0 := x.cell (i := 0) rfl
      have x1 := x.cell (i := 1) rfl
      have ff := bf.free
      have fl := bl.free
      have zf := bf.lt
      have zl := bl.lt
      have BF := Lib.hid bf
      have BL := Lib.hid bl
      clear bf bl x hb HF HL
      go_wp2_with fail
      go_end0
      exact ⟨rfl, ((BF.out.setO _ hne).setO _ hne).set 0 _, ((BL.out.set 0 _).set 1 _).setO _ hne.symm, ((U1.out.setCell _ _ fun _ => .inr rfl).setCell _ _ fun _ => .inr rfl).setCell _ _ fun _ => .inl rfl⟩
    · rw [decide_eq_false hc]
      go_enter Try.func56, Try.ntmps56
      go_wp2_with fail
      refine (CM.out _).mono ?_
      rintro e w1 ⟨rfl, hb⟩
      have bf := Lib.hid ((HF.out.alloc _).bel hb)
      have bl := Lib.hid ((HL.out.alloc _).bel hb)
      have U1 := Lib.hid (Upd.then (UA.out _) (Upd.of_below (S := fun k => k = fk ∨ k = lk) hb) (fun _ _ h => h))
      clear hb HF HL
      go_wp2_with fail
      go_end0
      exact ⟨rfl, bf.out, bl.out, U1.out⟩
end Go.Proofs.Ytbdaehcngmhhcaa
