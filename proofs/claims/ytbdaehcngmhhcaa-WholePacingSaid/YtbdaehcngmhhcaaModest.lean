/-
  Contract of the law's modest: it returns modB of the net.
-/
import Derived.Test.YtbdaehcngmhhcaaMod
import Derived.Laws.EntriesVeiled
namespace Go.Proofs.Ytbdaehcngmhhcaa
open Go.RowKit
set_option linter.unusedVariables false

structure MdAt (w wr : World) (ca fa : Option Addr) (cc fc n m tb : Nat) : Prop where
  a : Blk wr w.heap.size 25 [.slice ca n cc, .slice fa m fc]
  b : Blk wr tb 41 [fitV]
  u : Below w.heap.size w wr
theorem MdAt.below {w wr w' : World} {ca fa : Option Addr} {cc fc n m tb : Nat} (h : MdAt w wr ca fa cc fc n m tb) (q : Below wr.heap.size wr w') : MdAt w w' ca fa cc fc n m tb :=
  ⟨h.a.bel q, h.b.bel q, below_then h.u q h.u.size⟩
def MdRel (w : World) (ca fa : Option Addr) (cc fc n m tb : Nat) (caps : List Rq) (ix : Value) (wr : World) : Prop :=
  ∃ p : Nat, p ≤ n ∧ ix = .int .i64 p ∧ Hid ((caps.take p).all fitsB = true) ∧ Hid (MdAt w wr ca fa cc fc n m tb)
set_option maxRecDepth 100000 in
set_option maxHeartbeats 4000000 in
theorem modest_any (w : World) (ca fa : Option Addr) (cc fc : Nat) (caps : List Rq) (fls : List Fw) (h : NetAt w ca fa caps fls) (hcl : caps.length ≤ maxLen) (hfl : fls.length ≤ maxLen)
    (hic : ∀ c ∈ caps, I64 c.n ∧ I64 c.d) (hif : ∀ f ∈ fls, I64 (Fw.dm f).n ∧ I64 f.dm.d) (hlk : ∀ f ∈ fls, (Fw.lk f).length ≤ maxLen) :
    Calls Try.prog 5 #[netV ca fa cc fc caps fls] w fun e w' => e = .returned (.bool (modB caps fls)) ∧ Below w.heap.size w w' := by
  have VN := fun (h1 : caps.length ≤ 32) (h2 : fls.length ≤ 32) w' (q : Below w.heap.size w w') => valid_net w' ca fa cc fc caps fls (h.below q) h1 h2 hic hif hlk
  have H := Lib.hid h
  have M1 := Lib.hid (Blk.new w 25 [.slice ca caps.length cc, .slice fa fls.length fc])
  clear h hic hif hlk
  generalize hR : modB caps fls = R
  have HR := Lib.hid hR; clear hR
  unfold netV at VN ⊢
  generalize hn : caps.length = n at *
  generalize hm : fls.length = m at *
  have HN := Lib.hid hn; have HM := Lib.hid hm
  clear hn hm
  by_cases h4 : n ≤ 4
  · by_cases h5 : m ≤ 5
    · have VN := VN (by omega) (by omega)
      have k1 : ¬ (4 : Int) < (n : Int) := by omega
      have k2 : ¬ (5 : Int) < (m : Int) := by omega
      cases hv : netB caps fls with
      | false =>
        rw [hv] at VN
        have hR : R = false := by rw [← HR.out]; unfold modB; rw [hv]; simp
        subst hR
        replace VN := Lib.hid VN
        clear hv
        go_enter Try.func5, Try.ntmps5
        go_wp2_with fail
        refine (VN.out _ (alloc_belQ w _)).mono ?_
        rintro e w1 ⟨rfl, hb⟩
        have B := Lib.hid (below_then (alloc_belQ w _) hb (alloc_belQ w _).size)
        clear hb
        go_wp2_with fail
        go_ret
        exact ⟨rfl, B.out⟩
      | true =>
        rw [hv] at VN
        have hR2 : R = (caps.all fitsB && fls.all fun f => fitsB f.dm) := by
          rw [← HR.out]; unfold modB; rw [hv, HN.out, HM.out]; simp [h4, h5]
        have HR2 := Lib.hid hR2
        replace VN := Lib.hid VN
        clear hv hR2 HR
        go_enter Try.func5, Try.ntmps5
        go_wp2_with fail
        refine (VN.out _ (alloc_belQ w _)).mono ?_
        rintro e w1 ⟨rfl, hb⟩
        have B := Lib.hid (below_then (alloc_belQ w _) hb (alloc_belQ w _).size)
        have C1 := M1.out.bel hb
        have x0 := C1.cell (i := 0) rfl
        have x1 := C1.cell (i := 1) rfl
        have z0 := C1.lt
        have T0 : MdAt w (w1.alloc (.cells #[fitV] 41)) ca fa cc fc n m w1.heap.size := ⟨C1.alloc _, Blk.new _ _ _, below_then B.out (alloc_belQ _ _) B.out.size⟩
        unfold fitV at T0
        replace T0 := Lib.hid T0
        clear hb C1 M1 B
        go_wp2_with fail
        generalize w1.heap.size = tb at *
        go_loopw [24] (fun ix wr => MdRel w ca fa cc fc n m tb caps ix wr) (fun ix _ => n - (intOf ix).toNat)
        case atStart => exact ⟨0, Nat.zero_le _, rfl, rfl, T0⟩
        case round =>
          clear T0 x0 x1
          obtain ⟨p, hp, rfl, hall, T⟩ := hrel
          have c0 := T.out.a.cell (i := 0) rfl
          have c1 := T.out.a.cell (i := 1) rfl
          have y0 := T.out.b.cell (i := 0) rfl
          have z1 := T.out.b.lt
          have z2 := T.out.a.lt
          unfold fitV at y0
          by_cases hpn : p < n
          · obtain ⟨r, er, okr, rn, rd⟩ := (H.out.below T.out.u).c.r (k := p) (by rw [HN.out]; exact hpn)
            have F1 := fun w => fits1_any r.n r.d w
            have hst := fun h => all_step (p := fitsB) hall.out er.out h
            have hbad : fitsB r = false → R = false := fun h => by rw [HR2.out, all_bad er.out h]; rfl
            obtain ⟨n0, d0⟩ := r
            dsimp only at *
            replace hst := Lib.hid hst
            replace hbad := Lib.hid hbad
            clear er hall
            cases hq : fitsB ⟨n0, d0⟩ with
            | true =>
              rw [hq] at F1
              have F1 := Lib.hid F1
              have hst := Lib.hid (hst.out hq)
              clear hq hbad
              go_wp2_with fail
              refine (F1.out _).mono ?_
              rintro e w2 ⟨rfl, hb⟩
              have T2 := Lib.hid ((T.out.below (alloc_belQ _ _)).below hb)
              clear hb
              go_wp2_with fail
              go_roundw
              case rel => exact ⟨p + 1, by omega, by go_num, hst, T2⟩
              case measure => simp [intOf]; omega
            | false =>
              rw [hq] at F1
              have F1 := Lib.hid F1
              have hR := hbad.out hq
              subst hR
              clear hq hst hbad
              go_wp2_with fail
              refine (F1.out _).mono ?_
              rintro e w2 ⟨rfl, hb⟩
              have T2 := Lib.hid ((T.out.below (alloc_belQ _ _)).below hb)
              clear hb
              go_wp2_with fail
              go_ret
              exact ⟨rfl, T2.out.u⟩
          · obtain rfl : n = p := by omega
            have h2 := hall.out
            rw [List.take_of_length_le (by rw [HN.out]; omega)] at h2
            have hR3 : R = fls.all fun f => fitsB f.dm := by rw [HR2.out, h2]; rfl
            have CF := cntf_any wr fa fc tb fls (H.out.below T.out.u).f T.out.b (by rw [HM.out]; omega)
            rw [← hR3, HM.out] at CF
            unfold fit2V at CF
            have CF := Lib.hid CF
            clear h2 hall hR3 HR2
            go_wp2_with fail
            refine CF.out.mono ?_
            rintro e w2 ⟨rfl, hb⟩
            have T2 := Lib.hid (T.out.below hb)
            clear hb
            go_wp2_with fail
            go_ret
            exact ⟨by simp, T2.out.u⟩
    · have hR : R = false := by rw [← HR.out]; unfold modB; rw [HN.out, HM.out]; simp [h5]
      subst hR
      have k1 : ¬ (4 : Int) < (n : Int) := by omega
      have k2 : (5 : Int) < (m : Int) := by omega
      clear VN
      go_enter Try.func5, Try.ntmps5
      go_wp2_with fail
      go_ret
      exact ⟨rfl, by (repeat' (first | with_reducible assumption | with_reducible exact Below.refl _ _ | with_reducible refine Below.drewQ ?_ | with_reducible refine Below.drewNQ ?_ _ | with_reducible refine Below.setCell ?_ (by dsimp only; omega) _ | with_reducible refine Below.alloc ?_ (by first | omega | (simp; done) | (simp; omega)) _))⟩
  · have hR : R = false := by rw [← HR.out]; unfold modB; rw [HN.out]; simp [h4]
    subst hR
    have k1 : (4 : Int) < (n : Int) := by omega
    clear VN
    go_enter Try.func5, Try.ntmps5
    go_wp2_with fail
    go_ret
    exact ⟨rfl, by (repeat' (first | with_reducible assumption | with_reducible exact Below.refl _ _ | with_reducible refine Below.drewQ ?_ | with_reducible refine Below.drewNQ ?_ _ | with_reducible refine Below.setCell ?_ (by dsimp only; omega) _ | with_reducible refine Below.alloc ?_ (by first | omega | (simp; done) | (simp; omega)) _))⟩
end Go.Proofs.Ytbdaehcngmhhcaa
