/-
  Contract of the law's modest.
-/
import Derived.Test.YtbdaehcngmhhcaaDem
namespace Go.Proofs.Ytbdaehcngmhhcaa
open Go.RowKit
set_option linter.unusedVariables false

theorem alloc_belQ (w : World) (o : Obj) : Below w.heap.size w (w.alloc o) := (Below.refl _ _).alloc (Nat.le_refl _) _
def fitsB (r : Rq) : Bool := decide (r.n ≤ 12) && decide (r.d ≤ 4)
def flowV (f : Fw) : Value := .agg #[.slice f.la f.lk.length f.lc, .bool f.bd, .int .i64 f.dm.n, .int .i64 f.dm.d]
def fitV : Value := .func (.func 12) #[] #[]
def fit2V (b : Nat) : Value := .func (.func 14) #[] #[.pointer (some ⟨b, 0, none⟩)]
def modB (caps : List Rq) (fls : List Fw) : Bool := decide (caps.length ≤ 4) && decide (fls.length ≤ 5) && netB caps fls && caps.all fitsB && fls.all fun f => fitsB f.dm
set_option maxHeartbeats 1000000 in
theorem fits1_any (n d : Int) (w : World) : Calls Try.prog 12 #[.agg #[.int .i64 n, .int .i64 d]] w fun e w' => e = .returned (.bool (fitsB ⟨n, d⟩)) ∧ Below w.heap.size w w' := by
  unfold fitsB
  dsimp only
  cases h1 : decide (n ≤ 12) with
  | false =>
    go_enter Try.func12, Try.ntmps12
    go_wp2_with fail
    go_ret
    exact ⟨rfl, by (repeat' (first | with_reducible assumption | with_reducible exact Below.refl _ _ | with_reducible refine Below.drewQ ?_ | with_reducible refine Below.drewNQ ?_ _ | with_reducible refine Below.setCell ?_ (by dsimp only; omega) _ | with_reducible refine Below.alloc ?_ (by first | omega | (simp; done) | (simp; omega)) _))⟩
  | true =>
    cases h2 : decide (d ≤ 4) with
    | false =>
      go_enter Try.func12, Try.ntmps12
      go_wp2_with fail
      go_ret
      exact ⟨rfl, by (repeat' (first | with_reducible assumption | with_reducible exact Below.refl _ _ | with_reducible refine Below.drewQ ?_ | with_reducible refine Below.drewNQ ?_ _ | with_reducible refine Below.setCell ?_ (by dsimp only; omega) _ | with_reducible refine Below.alloc ?_ (by first | omega | (simp; done) | (simp; omega)) _))⟩
    | true =>
      go_enter Try.func12, Try.ntmps12
      go_wp2_with fail
      go_ret
      exact ⟨rfl, by (repeat' (first | with_reducible assumption | with_reducible exact Below.refl _ _ | with_reducible refine Below.drewQ ?_ | with_reducible refine Below.drewNQ ?_ _ | with_reducible refine Below.setCell ?_ (by dsimp only; omega) _ | with_reducible refine Below.alloc ?_ (by first | omega | (simp; done) | (simp; omega)) _))⟩
set_option maxRecDepth 100000 in
set_option maxHeartbeats 1000000 in
theorem fits2_any (f : Fw) (b : Nat) (w : World) (hb : Blk w b 41 [fitV]) : Calls Try.prog 14 #[flowV f, .pointer (some ⟨b, 0, none⟩)] w fun e w' => e = .returned (.bool (!fitsB f.dm)) ∧ Below w.heap.size w w' := by
  have F1 := Lib.hid (fun w => fits1_any f.dm.n f.dm.d w)
  have c0 := hb.cell (i := 0) rfl
  have z := hb.lt
  have e0 : fitsB f.dm = fitsB ⟨f.dm.n, f.dm.d⟩ := rfl
  rw [e0]
  clear hb e0
  unfold flowV
  unfold fitV at c0
  obtain ⟨la, lc, lk, bd, ⟨n, d⟩⟩ := f
  dsimp only at *
  generalize fitsB ⟨n, d⟩ = q at *
  generalize lk.length = L at *
  go_enter Try.func14, Try.ntmps14
  go_wp2_with fail
  refine (F1.out _).mono ?_
  rintro e w1 ⟨rfl, hb⟩
  have B := Lib.hid (below_then (alloc_belQ w _) hb (alloc_belQ w _).size)
  clear hb
  go_wp2_with fail
  go_ret
  exact ⟨rfl, B.out⟩
def IfRel (w : World) (b : Nat) (fls : List Fw) (n : Nat) (ix : Value) (wr : World) : Prop :=
  ∃ p : Nat, p ≤ n ∧ ix = .int .i64 p ∧ Hid ((fls.take p).all (fun f => fitsB f.dm) = true) ∧ Hid (Below w.heap.size w wr)
def IfPost (w : World) (fls : List Fw) (e : Ending) (w' : World) : Prop := ∃ i : Int, e = .returned (.int .i64 i) ∧ decide (0 ≤ i) = !(fls.all fun f => fitsB f.dm) ∧ Below w.heap.size w w'
set_option maxRecDepth 100000 in
set_option maxHeartbeats 2000000 in
theorem idxf_any (w : World) (fa : Option Addr) (fc b : Nat) (fls : List Fw) (hf : SlC fC 4 w fa fls) (hb : Blk w b 41 [fitV]) (hl : fls.length ≤ 1000) :
    Calls Try.prog 34 #[.slice fa fls.length fc, fit2V b] w (IfPost w fls) := by
  have HF := Lib.hid hf
  have HB := Lib.hid hb
  clear hf hb
  unfold fit2V
  generalize hn : fls.length = n at *
  have HN := Lib.hid hn
  clear hn
  go_enter Try.func34, Try.ntmps34
  go_wp2_with fail
  go_loopw [8] (fun ix wr => IfRel w b fls n ix wr) (fun ix _ => n - (intOf ix).toNat)
  case atStart => exact ⟨0, Nat.zero_le _, rfl, rfl, Below.refl _ _⟩
  case round =>
    obtain ⟨p, hp, rfl, hall, hB⟩ := hrel
    by_cases hpn : p < n
    · obtain ⟨f, ef, okf, fl, fb, fn, fd⟩ := (HF.out.below hB.out).f (k := p) (by rw [HN.out]; exact hpn)
      have F2 := fits2_any f b wr (HB.out.bel hB.out)
      have hst := fun h => all_step (p := fun f : Fw => fitsB f.dm) hall.out ef.out h
      have hbad : fitsB f.dm = false → (fls.all fun f => fitsB f.dm) = false := fun h => all_bad (p := fun f : Fw => fitsB f.dm) ef.out h
      unfold flowV at F2
      obtain ⟨la, lc, lk, bd, ⟨n0, d0⟩⟩ := f
      dsimp only at *
      replace hst := Lib.hid hst
      replace hbad := Lib.hid hbad
      clear ef hall
      cases hq : fitsB ⟨n0, d0⟩ with
      | true =>
        rw [hq] at F2
        have F2 := Lib.hid F2
        have hst := Lib.hid (hst.out hq)
        go_wp2_with fail
        refine F2.out.mono ?_
        rintro e w1 ⟨rfl, hb⟩
        have B := Lib.hid (below_then hB.out hb hB.out.size)
        clear hb
        go_wp2_with fail
        go_roundw
        case rel => exact ⟨p + 1, by omega, by go_num, hst, B⟩
        case measure => simp [intOf]; omega
      | false =>
        rw [hq] at F2
        have F2 := Lib.hid F2
        have hb2 := Lib.hid (hbad.out hq)
        go_wp2_with fail
        refine F2.out.mono ?_
        rintro e w1 ⟨rfl, hb⟩
        have B := Lib.hid (below_then hB.out hb hB.out.size)
        clear hb
        go_wp2_with fail
        go_ret
        exact ⟨p, rfl, by rw [hb2.out]; simp, B.out⟩
    · obtain rfl : n = p := by omega
      have h2 := hall.out
      rw [List.take_of_length_le (by rw [HN.out]; omega)] at h2
      have H2 := Lib.hid h2
      clear h2 hall
      go_wp2_with fail
      go_ret
      exact ⟨-1, rfl, by rw [H2.out]; rfl, hB.out⟩
set_option maxRecDepth 100000 in
set_option maxHeartbeats 1000000 in
theorem cntf_any (w : World) (fa : Option Addr) (fc b : Nat) (fls : List Fw) (hf : SlC fC 4 w fa fls) (hb : Blk w b 41 [fitV]) (hl : fls.length ≤ 1000) :
    Calls Try.prog 13 #[.slice fa fls.length fc, fit2V b] w fun e w' => e = .returned (.bool (!(fls.all fun f => fitsB f.dm))) ∧ Below w.heap.size w w' := by
  have IX := idxf_any w fa fc b fls hf hb hl
  unfold IfPost at IX
  generalize (!(fls.all fun f => fitsB f.dm)) = q at *
  generalize fls.length = n at *
  replace IX := Lib.hid IX
  clear hf hb
  unfold fit2V
  unfold fit2V at IX
  go_enter Try.func13, Try.ntmps13
  go_wp2_with fail
  refine IX.out.mono ?_
  rintro e w1 ⟨i, rfl, hi, hb⟩
  have B := Lib.hid hb
  have HI := Lib.hid hi
  clear hb hi
  go_wp2_with fail
  go_ret
  exact ⟨by rw [← HI.out]; rfl, B.out⟩
end Go.Proofs.Ytbdaehcngmhhcaa
