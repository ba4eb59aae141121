/-
  Contract of waterfill.Rates.
-/
import Derived.Test.YtbdaehcngmhhcaaLs
namespace Go.Proofs.Ytbdaehcngmhhcaa
open Go.RowKit
set_option linter.unusedVariables false

/-- The rates, under way: a row of the call's own. -/
structure RtAt (w wr : World) (m : Nat) (R : Nat → Rq) : Prop where
  r : Blk wr w.heap.size 29 (flC rC ((List.range m).map R))
  u : Below w.heap.size w wr
section
variable {w wr w' : World} {m : Nat} {R : Nat → Rq}
theorem RtAt.below (h : RtAt w wr m R) (q : Below wr.heap.size wr w') : RtAt w w' m R := ⟨h.r.bel q, below_then h.u q (by have := h.r.lt; omega)⟩
theorem RtAt.put (h : RtAt w wr m R) {i : Nat} (hi : i < m) (r : Rq) : RtAt w ((wr.setCell ⟨w.heap.size, i * 2, none⟩ (.int .i64 r.n)).setCell ⟨w.heap.size, i * 2 + 1, none⟩ (.int .i64 r.d)) m (updQ R i r) := by
  refine ⟨?_, (h.u.setCell (Nat.le_refl _) _).setCell (Nat.le_refl _) _⟩
  rw [← flC_set R hi r]
  exact (h.r.set _ _).set _ _
theorem RtAt.rc (h : RtAt w wr m R) {i : Nat} (hi : i < m) : wr.cell? ⟨w.heap.size, i * 2, none⟩ = some (.int .i64 (R i).n) ∧ wr.cell? ⟨w.heap.size, i * 2 + 1, none⟩ = some (.int .i64 (R i).d) := by
  have e : ((List.range m).map R)[i]? = some (R i) := by simp [hi]
  exact ⟨h.r.cell (i := i * 2 + 0) (by rw [flC_get rC_len e 0 (by omega)]; rfl), h.r.cell (by rw [flC_get rC_len e 1 (by omega)]; rfl)⟩
end
def RtPost (w : World) (N : Nt) (m : Nat) (e : Ending) (w' : World) : Prop :=
  ∃ (rb : Nat) (R : Nat → Rq) (r : Nat → Int) (fz : Nat → Bool) (V : Int), e = .returned (.tuple #[.slice (some ⟨rb, 0, none⟩) m m, .int .i64 0]) ∧ w.heap.size ≤ rb ∧ Blk w' rb 29 (flC rC ((List.range m).map R)) ∧
    (∀ i < m, Rp1 uU (R i) (r i)) ∧ Fill N V uU fz r ∧ (∀ i < m, fz i = true) ∧ Below w.heap.size w w'
def Rt1Rel (w : World) (m : Nat) (lvs : List Lw) (ix : Value) (wr : World) : Prop := ∃ p : Nat, p ≤ lvs.length ∧ ix = .int .i64 p ∧ Hid (RtAt w wr m (RL (lvs.take p)))
def Rt2Rel (w : World) (m lb : Nat) (R : Nat → Rq) (rt : Rq) (va : Option Addr) (vc : Nat) (fl : List Nat) (ix : Value) (wr : World) : Prop :=
  ∃ k : Nat, k ≤ fl.length ∧ ix = .int .i64 k ∧ Hid (RtAt w wr m (setR (fl.take k) rt R)) ∧ Hid (Blk wr lb 57 [.int .i64 rt.n, .int .i64 rt.d, .slice va fl.length vc]) ∧ w.heap.size < lb
theorem RL_step {lvs : List Lw} {p : Nat} {x : Lw} (h : lvs[p]? = some x) : RL (lvs.take (p + 1)) = setR x.fl x.rt (RL (lvs.take p)) := by
  rw [List.take_add_one, h]
  exact RL_snoc _ _
set_option maxRecDepth 100000 in
set_option maxHeartbeats 4000000 in
theorem rates_any (w : World) (ca fa : Option Addr) (cc fc : Nat) (caps : List Rq) (fls : List Fw) (N : Nt) (h : NetAt w ca fa caps fls) (hP : NtPk N caps fls) :
    Calls Try.prog 7 #[netV ca fa cc fc caps fls] w (RtPost w N fls.length) := by
  have hml := hP.ml
  have LV := fun w' (q : Below w.heap.size w w') => levels_any w' ca fa cc fc caps fls N (h.below q) hP
  clear h
  replace hP := Lib.hid hP
  unfold netV at LV ⊢
  replace LV := Lib.hid LV
  generalize caps.length = n at *
  generalize hmm : fls.length = m at *
  have HMM := Lib.hid hmm
  clear hmm
  have mk1 := fun w => make_rats w m (by omega)
  go_enter Try.func7, Try.ntmps7
  go_wp2_with fail
  refine (LV.out _ (alloc_belQ _ _)).mono ?_
  rintro e w1 ⟨lvs, r, a, c, rfl, hL, hK, hall, hb⟩
  have X := (Blk.new w 25 [.slice ca n cc, .slice fa m fc]).bel hb
  have x0 := X.cell (i := 0) rfl
  have x1 := X.cell (i := 1) rfl
  have xz := X.lt
  have B1 := Lib.hid ((alloc_belQ w (.cells #[.slice ca n cc, .slice fa m fc] 25)).trans (hb.mono (by simp)))
  replace hL := Lib.hid hL
  replace hK := Lib.hid hK
  replace hall := Lib.hid hall
  have R0 : Hid (RtAt w1 (w1.alloc (.cells (flC rC ((List.range m).map fun _ => (⟨0, 0⟩ : Rq))).toArray 29)) m (RL [])) := ⟨Blk.new _ _ _, alloc_belQ _ _⟩
  have hlv : lvs.length ≤ 5 := by
    have h1 := hK.out.o
    have h2 : 0 ≤ nOpen N (fzL lvs) := sI_nonneg fun i _ => by split <;> omega
    omega
  clear hb LV X
  go_wp2_with fail
  clear x0 x1 xz mk1
  go_loopw [25] (fun ix wr => Rt1Rel w1 m lvs ix wr) (fun ix _ => lvs.length - (intOf ix).toNat)
  case atStart => exact ⟨0, Nat.zero_le _, rfl, by rw [List.take_zero]; exact R0⟩
  case round =>
    clear R0
    obtain ⟨p, hp, rfl, T⟩ := hrel
    by_cases hpl : p < lvs.length
    · have ex : lvs[p]? = some lvs[p] := by simp [hpl]
      have LL := hL.out.below T.out.u
      obtain ⟨o0, k0⟩ := ownC_cell lvC_len (by decide) LL.own ex (k := 0) (by decide) rfl
      obtain ⟨_, k1⟩ := ownC_cell lvC_len (by decide) LL.own ex (k := 1) (by decide) rfl
      obtain ⟨_, k2⟩ := ownC_cell lvC_len (by decide) LL.own ex (k := 2) (by decide) rfl
      rw [Nat.add_zero] at k0
      obtain ⟨g, h1, h2, h3, h4, h5⟩ := hL.out.rd _ (List.mem_of_getElem? ex)
      have him := Lib.hid (hK.out.i _ (List.mem_of_getElem? ex))
      have EX := Lib.hid (RL_step ex)
      have hfl := hK.out.n _ (List.mem_of_getElem? ex)
      clear ex LL
      generalize lvs[p] = x at *
      obtain ⟨rt, va, vc, fl⟩ := x
      dsimp only at *
      subst h1
      replace h5 := Lib.hid h5
      have z0 := T.out.r.lt
      have T1 := Lib.hid (T.out.below (alloc_belQ wr (.cells #[.int .i64 rt.n, .int .i64 rt.d, .slice (some ⟨g, 0, none⟩) fl.length vc] 57)))
      have BL := Lib.hid (Blk.new wr 57 [.int .i64 rt.n, .int .i64 rt.d, .slice (some ⟨g, 0, none⟩) fl.length vc])
      go_wp2_with fail
      generalize hlb : wr.heap.size = lb at *
      replace hlb := Lib.hid hlb
      go_loopw [32] (fun ix wr' => Rt2Rel w1 m lb (RL (lvs.take p)) rt (some ⟨g, 0, none⟩) vc fl ix wr') (fun ix _ => fl.length - (intOf ix).toNat)
      case atStart => exact ⟨0, Nat.zero_le _, rfl, by rw [List.take_zero, setR_nil]; exact T1, BL, z0⟩
      case round =>
        clear T T1 BL k0 k1 k2 o0
        obtain ⟨j, hj, rfl, T, B, hlb2⟩ := hrel
        have S5 := h5.out.below T.out.u
        have d0 := B.out.cell (i := 0) rfl
        have d1 := B.out.cell (i := 1) rfl
        have d2 := B.out.cell (i := 2) rfl
        have zk := B.out.lt
        have zr := T.out.r.lt
        by_cases hjl : j < fl.length
        · have ei : fl[j]? = some fl[j] := by simp [hjl]
          obtain ⟨okx, fx⟩ := S5 j (fl[j] : Int) (by unfold flI; rw [List.getElem?_map, ei]; rfl)
          rw [adr_mk, Nat.zero_add] at fx
          have hi := him.out fl[j] (List.mem_of_getElem? ei)
          have E1 := Lib.hid (setR_step ei rt (RL (lvs.take p)))
          clear ei S5
          generalize fl[j] = i at *
          have fr := T.out.r.free
          obtain ⟨e0, e1⟩ := T.out.rc hi
          go_wp2_with fail
          go_roundw
          case rel => exact ⟨j + 1, by omega, by go_num, by rw [← E1.out]; exact T.out.put hi rt, (B.out.setO _ (by dsimp only; omega)).setO _ (by dsimp only; omega), hlb2⟩
          case measure => simp [intOf]; omega
        · have hjL : j = fl.length := by omega
          subst hjL
          rw [List.take_length, ← EX.out] at T
          go_wp2_with fail
          go_roundw
          case rel => exact ⟨p + 1, by omega, by go_num, T⟩
          case measure => simp [intOf]; omega
    · have hpL : p = lvs.length := by omega
      subst hpL
      rw [List.take_length] at T
      have hsz := B1.out.size
      go_wp2_with fail
      exact bodyPost_ret (v := .tuple #[.slice (some ⟨w1.heap.size, 0, none⟩) m m, .int .i64 0]) (by simp [results, Try.results7, go_sem]) rfl
        ⟨w1.heap.size, RL lvs, r, fzL lvs, _, rfl, hsz, T.out.r, fun i hi => hK.out.r i hi (hall.out i hi), hK.out.f, hall.out, B1.out.trans (T.out.u.mono hsz)⟩
end Go.Proofs.Ytbdaehcngmhhcaa
