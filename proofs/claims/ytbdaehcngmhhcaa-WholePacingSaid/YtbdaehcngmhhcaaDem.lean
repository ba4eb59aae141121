/-
  Contract of demand.Valid.
-/
import Derived.Test.YtbdaehcngmhhcaaNet
namespace Go.Proofs.Ytbdaehcngmhhcaa
open Go.RowKit
set_option linter.unusedVariables false

def NvRel (w : World) (ca fa : Option Addr) (cc fc n m : Nat) (ok : Nat → Prop) (lim : Nat) (i : Value) (wr : World) : Prop :=
  ∃ k : Nat, k ≤ lim ∧ i = .int .i64 k ∧ Hid (ok k) ∧ Hid (B2 w wr 25 29 [.slice ca n cc, .slice fa m fc] [.int .i64 1000, .int .i64 1])
theorem Sl.takeQ {α : Type} {f : α → Value} {w : World} {a : Option Addr} {xs : List α} (h : Sl f w a xs) (p : Nat) : Sl f w a (xs.take p) := fun j x hj => h j x (by
  rw [List.getElem?_take] at hj
  split at hj
  · exact hj
  · cases hj)
theorem lk_at {m : Nat} {lk : List Int} {p : Nat} {x : Int} (hx : lk[p]? = some x) : lkAt m lk p = (decide (0 ≤ x) && decide (x < m) && !decide (x ∈ lk.take p)) := by
  unfold lkAt
  rw [List.getD_eq_getElem?_getD, hx]
  rfl
theorem most_ok : Rq.ok ⟨1000, 1⟩ = true := by decide +kernel
set_option maxRecDepth 100000 in
set_option maxHeartbeats 4000000 in
theorem valid_net (w : World) (ca fa : Option Addr) (cc fc : Nat) (caps : List Rq) (fls : List Fw) (h : NetAt w ca fa caps fls) (hc : caps.length ≤ 32) (hf : fls.length ≤ 32)
    (hic : ∀ c ∈ caps, I64 c.n ∧ I64 c.d) (hif : ∀ f ∈ fls, I64 (Fw.dm f).n ∧ I64 f.dm.d) (hlk : ∀ f ∈ fls, (Fw.lk f).length ≤ maxLen) :
    Calls Try.prog 11 #[netV ca fa cc fc caps fls] w fun e w' => e = .returned (.bool (netB caps fls)) ∧ Below w.heap.size w w' := by
  have H := Lib.hid h
  have HIC := Lib.hid hic; have HIF := Lib.hid hif; have HLK := Lib.hid hlk
  clear h hic hif hlk
  generalize hR : netB caps fls = R
  have HR := Lib.hid hR; clear hR
  have M2 := Lib.hid (fun c1 c2 => B2.mk_ w 25 29 c1 c2)
  unfold netV
  generalize hn : caps.length = n at *
  generalize hm : fls.length = m at *
  have HN := Lib.hid hn; have HM := Lib.hid hm
  clear hn hm
  have g1 : ¬ (32 : Int) < (n : Int) := by omega
  have g2 : ¬ (32 : Int) < (m : Int) := by omega
  go_enter Try.func11, Try.ntmps11
  go_wp2_with fail
  have T0 := Lib.hid (M2.out [.slice ca n cc, .slice fa m fc] [.int .i64 1000, .int .i64 1])
  clear M2
  go_loopw [24] (fun i wr => NvRel w ca fa cc fc n m (fun k => (caps.take k).all capB = true) n i wr) (fun i _ => n - (intOf i).toNat)
  case atStart => exact ⟨0, Nat.zero_le _, rfl, rfl, T0⟩
  case round =>
    clear T0
    obtain ⟨k, hk, rfl, hok, T⟩ := hrel
    obtain ⟨e0, e1, e2, e3⟩ := T.out.N
    by_cases hlt : k < n
    · obtain ⟨c, ec, okc, cn, cd⟩ := (H.out.below T.out.u).c.r (k := k) (by rw [HN.out]; exact hlt)
      have hi := HIC.out c (List.mem_of_getElem? ec.out)
      have V := fun w => valid_any c.n c.d w hi.1 hi.2
      have hbad : capB c = false → R = false := fun hb => by rw [← HR.out]; unfold netB; rw [all_bad ec.out hb]; rfl
      have hgood : capB c = true → (caps.take (k + 1)).all capB = true := all_step hok.out ec.out
      have CB := fun (hv : c.ok = true) w => cmp_any c ⟨1000, 1⟩ w hv most_ok
      obtain ⟨n0, d0⟩ := c
      replace hbad := Lib.hid hbad
      replace hgood := Lib.hid hgood
      clear hi hok
      dsimp only at V cn cd
      cases hv : Rq.ok ⟨n0, d0⟩ with
      | false =>
        have hR := hbad.out (by unfold capB; rw [hv]; rfl)
        rw [hv] at V
        replace V := Lib.hid V
        subst hR
        clear hv CB hbad hgood
        go_wp2_with fail
        refine (V.out _).mono ?_
        rintro e w1 ⟨rfl, hb⟩
        have UB := Lib.hid ((T.out.alloc_ _).bel hb).u
        clear hb T
        go_wp2_with fail
        go_ret
        exact ⟨rfl, UB.out⟩
      | true =>
        have CB := CB hv
        rw [hv] at V
        replace V := Lib.hid V
        by_cases hn0 : n0 < 0
        · have hR := hbad.out (by unfold capB; simp; omega)
          subst hR
          clear hv CB hbad hgood
          go_wp2_with fail
          refine (V.out _).mono ?_
          rintro e w1 ⟨rfl, hb⟩
          have T1 := Lib.hid ((T.out.alloc_ _).bel hb)
          have C1 := (Blk.new _ _ _).bel hb (xs := [.int .i64 n0, .int .i64 d0])
          have x0 := C1.cell (i := 0) rfl
          clear hb T C1
          go_wp2_with fail
          go_ret
          exact ⟨rfl, T1.out.u⟩
        · by_cases hcm : (0 : Int) < Rq.cmp ⟨n0, d0⟩ ⟨1000, 1⟩
          · have hR := hbad.out (by unfold capB; simp; omega)
            generalize Rq.cmp ⟨n0, d0⟩ ⟨1000, 1⟩ = cm at *
            unfold rV at CB
            replace CB := Lib.hid CB
            subst hR
            clear hv hbad hgood
            go_wp2_with fail
            refine (V.out _).mono ?_
            rintro e w1 ⟨rfl, hb⟩
            have T1 := Lib.hid ((T.out.alloc_ _).bel hb)
            have C1 := (Blk.new _ _ _).bel hb (xs := [.int .i64 n0, .int .i64 d0])
            have x0 := C1.cell (i := 0) rfl
            have x1 := C1.cell (i := 1) rfl
            obtain ⟨e0, e1, e2, e3⟩ := T1.out.N
            clear hb T C1
            go_wp2_with fail
            refine (CB.out _).mono ?_
            rintro e w2 ⟨rfl, hb⟩
            have T2 := Lib.hid (T1.out.bel hb)
            clear hb T1
            go_wp2_with fail
            go_ret
            exact ⟨rfl, T2.out.u⟩
          · have hg := Lib.hid (hgood.out (by unfold capB; simp [hv]; omega))
            generalize Rq.cmp ⟨n0, d0⟩ ⟨1000, 1⟩ = cm at *
            unfold rV at CB
            replace CB := Lib.hid CB
            clear hv hbad hgood
            go_wp2_with fail
            refine (V.out _).mono ?_
            rintro e w1 ⟨rfl, hb⟩
            have T1 := Lib.hid ((T.out.alloc_ _).bel hb)
            have C1 := (Blk.new _ _ _).bel hb (xs := [.int .i64 n0, .int .i64 d0])
            have x0 := C1.cell (i := 0) rfl
            have x1 := C1.cell (i := 1) rfl
            obtain ⟨e0, e1, e2, e3⟩ := T1.out.N
            clear hb T C1
            go_wp2_with fail
            refine (CB.out _).mono ?_
            rintro e w2 ⟨rfl, hb⟩
            have T2 := Lib.hid (T1.out.bel hb)
            clear hb T1
            go_wp2_with fail
            go_roundw
            case rel => exact ⟨k + 1, by omega, by go_num, hg, T2⟩
            case measure => simp [intOf]; omega
    · obtain rfl : n = k := by omega
      have hg := Lib.hid hok.out
      clear hok
      go_wp2_with fail
      have hca : Hid (caps.all capB = true) := by
        show _ = _
        have := hg.out
        rwa [List.take_of_length_le (by rw [HN.out]; omega)] at this
      clear hg
      go_loopw [46] (fun i wr => NvRel w ca fa cc fc n m (fun k => (fls.take k).all (flB n) = true) m i wr) (fun i _ => m - (intOf i).toNat)
      case atStart => exact ⟨0, Nat.zero_le _, rfl, rfl, T⟩
      case round =>
        clear T
        obtain ⟨k, hk, rfl, hok, T⟩ := hrel
        obtain ⟨e0, e1, e2, e3⟩ := T.out.N
        by_cases hlt : k < m
        · obtain ⟨f, ef, okf, fl, fb, fn, fd⟩ := (H.out.below T.out.u).f.f (k := k) (by rw [HM.out]; exact hlt)
          have hfm := List.mem_of_getElem? ef.out
          have hi := HIF.out f hfm
          have hlen := HLK.out f hfm
          have hcap := H.out.k f hfm
          have LS := (H.out.below T.out.u).l f hfm
          have V := fun w => valid_any f.dm.n f.dm.d w hi.1 hi.2
          have hbad : flB n f = false → R = false := fun hb => by rw [← HR.out]; unfold netB; rw [HN.out, all_bad ef.out hb]; simp
          have hgood : flB n f = true → (fls.take (k + 1)).all (flB n) = true := all_step hok.out ef.out
          have hlb := fun i (h1 : i < f.lk.length) (h2 : lkAt n f.lk i = false) => hbad (fl_links_bad h1 h2)
          have hdb : dmB f = false → flB n f = false := fun h => by unfold flB; rw [h]; simp
          have hall : f.lk ≠ [] → (List.range f.lk.length).all (lkAt n f.lk) = true → dmB f = true → flB n f = true := fun h1 h2 h3 => by unfold flB; rw [h2, h3]; simp [h1]
          unfold maxLen at hlen
          obtain ⟨la, lc, lk, bd, ⟨n0, d0⟩⟩ := f
          dsimp only at *
          replace hbad := Lib.hid hbad
          replace hgood := Lib.hid hgood
          replace hlb := Lib.hid hlb; replace hdb := Lib.hid hdb; replace hall := Lib.hid hall
          clear hi hok hfm ef
          by_cases hl0 : lk = []
          · subst hl0
            have hR := hbad.out (by unfold flB; simp)
            subst hR
            clear hbad hgood V LS hlb hdb hall
            have UB := T.out.u
            simp only [List.length_nil] at fl
            go_wp2_with fail
            go_ret
            exact ⟨rfl, by have hz := UB.size; (repeat' (first | with_reducible assumption | with_reducible exact Below.refl _ _ | with_reducible refine Below.drewQ ?_ | with_reducible refine Below.drewNQ ?_ _ | with_reducible refine Below.setCell ?_ (by dsimp only; omega) _ | with_reducible refine Below.alloc ?_ (by first | omega | (simp; done) | (simp; omega)) _))⟩
          · have hlp : 0 < lk.length := by cases lk with | nil => exact absurd rfl hl0 | cons _ _ => simp
            replace hl0 := Lib.hid hl0
            generalize hL : lk.length = L at *
            have HL := Lib.hid hL
            clear hL
            have kL : ((L : Int) == 0) = false := by simp; omega
            go_wp2_with fail
            obtain ⟨wo, hwo⟩ : ∃ wo : World, wo = wr.alloc (.cells #[.slice la L lc, .bool bd, .int .i64 n0, .int .i64 d0] 35) := ⟨_, rfl⟩
            have TO := T.out.alloc_ (.cells #[.slice la L lc, .bool bd, .int .i64 n0, .int .i64 d0] 35)
            have FO := Blk.new wr 35 [.slice la L lc, .bool bd, .int .i64 n0, .int .i64 d0]
            have LO := LS.below ((Below.refl w.heap.size wr).trans (Below.refl _ _) |> fun _ => ((Below.refl wr.heap.size wr).alloc (Nat.le_refl _) (.cells #[.slice la L lc, .bool bd, .int .i64 n0, .int .i64 d0] 35)))
            rw [← hwo] at TO
            rw [← hwo]
            have FO' : Blk wo wr.heap.size 35 [.slice la L lc, .bool bd, .int .i64 n0, .int .i64 d0] := by rw [hwo]; exact FO
            rw [← hwo] at LO
            replace LO := Lib.hid LO
            clear FO hwo fl fb fn fd okf LS e0 e1 e2 e3
            generalize wr.heap.size = bf at *
            have TO := Lib.hid TO
            clear T
            obtain ⟨e0, e1, e2, e3⟩ := TO.out.N
            have x0 := FO'.cell (i := 0) rfl
            have x1 := FO'.cell (i := 1) rfl
            have x2 := FO'.cell (i := 2) rfl
            have x3 := FO'.cell (i := 3) rfl
            go_loop [57] (fun i => ∃ p : Nat, p ≤ L ∧ i = .int .i64 p ∧ Hid ((List.range p).all (lkAt n lk) = true)) (fun i => L - (intOf i).toNat)
            case atStart => exact ⟨0, Nat.zero_le _, rfl, rfl⟩
            case round =>
              obtain ⟨p, hp, rfl, hq⟩ := hrel
              by_cases hpl : p < L
              · obtain ⟨x, ex, okx, cx⟩ := LO.out.get (k := p) (by rw [HL.out]; exact hpl)
                have hat := lk_at (m := n) ex.out
                have CT := fun w' (e : w' = wo) => containsInt_any wo la lc (lk.take p) x (LO.out.takeQ p) (by rw [List.length_take]; unfold maxLen; have := HL.out; omega)
                have CT := CT wo rfl
                rw [List.length_take_of_le (by rw [HL.out]; omega)] at CT
                have hplc : (p : Int) ≤ (lc : Int) := by omega
                by_cases hx0 : x < 0
                · have hR := hbad.out (fl_links_bad (f := ⟨la, lc, lk, bd, ⟨n0, d0⟩⟩) (by show p < lk.length; rw [HL.out]; exact hpl) (by show lkAt n lk p = false; rw [hat]; simp; omega))
                  subst hR
                  clear hat CT hbad hgood hlb hdb hall V
                  go_wp2_with fail
                  go_ret
                  exact ⟨rfl, TO.out.u⟩
                · by_cases hxn : (n : Int) ≤ x
                  · have hR := hbad.out (fl_links_bad (f := ⟨la, lc, lk, bd, ⟨n0, d0⟩⟩) (by show p < lk.length; rw [HL.out]; exact hpl) (by show lkAt n lk p = false; rw [hat]; simp; omega))
                    subst hR
                    clear hat CT hbad hgood hlb hdb hall V
                    go_wp2_with fail
                    go_ret
                    exact ⟨rfl, TO.out.u⟩
                  · by_cases hxm : x ∈ lk.take p
                    · have hR := hbad.out (fl_links_bad (f := ⟨la, lc, lk, bd, ⟨n0, d0⟩⟩) (by show p < lk.length; rw [HL.out]; exact hpl) (by show lkAt n lk p = false; rw [hat]; simp [hxm]))
                      rw [decide_eq_true hxm] at CT
                      replace CT := Lib.hid CT
                      subst hR
                      clear hat hbad hgood hlb hdb hall V hxm
                      go_wp2_with fail
                      refine CT.out.mono ?_
                      rintro e w2 ⟨rfl, hw⟩
                      subst hw
                      go_wp2_with fail
                      go_ret
                      exact ⟨rfl, TO.out.u⟩
                    · have hq2 := Lib.hid (lk_step hq.out (by rw [hat]; simp [hxm]; omega))
                      rw [decide_eq_false hxm] at CT
                      replace CT := Lib.hid CT
                      clear hat hbad hlb hdb hall V hxm hq
                      go_wp2_with fail
                      refine CT.out.mono ?_
                      rintro e w2 ⟨rfl, hw⟩
                      subst hw
                      go_wp2_with fail
                      go_round
                      case rel => exact ⟨p + 1, by omega, by go_num, hq2⟩
                      case measure => simp [intOf]; omega
              · obtain rfl : L = p := by omega
                have hq1 := hq.out
                have hall1 := Lib.hid (fun h3 => hgood.out (hall.out hl0.out hq1 h3))
                have hbad1 := Lib.hid (fun h => hbad.out (hdb.out h))
                clear hq hq1 hall hdb hgood hbad hlb
                cases hv : Rq.ok ⟨n0, d0⟩ with
                | false =>
                  have hR := hbad1.out (by unfold dmB; rw [hv]; rfl)
                  rw [hv] at V
                  replace V := Lib.hid V
                  subst hR
                  clear hv hall1 hbad1
                  go_wp2_with fail
                  refine (V.out _).mono ?_
                  rintro e w1 ⟨rfl, hb⟩
                  have UB := Lib.hid (TO.out.bel hb).u
                  clear hb TO
                  go_wp2_with fail
                  go_ret
                  exact ⟨rfl, UB.out⟩
                | true =>
                  rw [hv] at V
                  replace V := Lib.hid V
                  by_cases hn0 : n0 < 0
                  · have hR := hbad1.out (by unfold dmB; simp; omega)
                    subst hR
                    clear hv hall1 hbad1
                    go_wp2_with fail
                    refine (V.out _).mono ?_
                    rintro e w1 ⟨rfl, hb⟩
                    have T1 := Lib.hid (TO.out.bel hb)
                    have F1 := FO'.bel hb
                    have x2 := F1.cell (i := 2) rfl
                    clear hb TO F1
                    go_wp2_with fail
                    go_ret
                    exact ⟨rfl, T1.out.u⟩
                  · cases bd with
                    | true =>
                      have hg := Lib.hid (hall1.out (by unfold dmB; simp [hv]; omega))
                      clear hv hall1 hbad1
                      go_wp2_with fail
                      refine (V.out _).mono ?_
                      rintro e w1 ⟨rfl, hb⟩
                      have T1 := Lib.hid (TO.out.bel hb)
                      have F1 := FO'.bel hb
                      have x1 := F1.cell (i := 1) rfl
                      have x2 := F1.cell (i := 2) rfl
                      clear hb TO F1
                      go_wp2_with fail
                      go_roundw
                      case rel => exact ⟨k + 1, by omega, by go_num, hg, T1⟩
                      case measure => simp [intOf]; omega
                    | false =>
                      by_cases hz : n0 = 0
                      · have hg := Lib.hid (hall1.out (by unfold dmB; rw [hv]; simp [hz]))
                        have kz : (n0 == 0) = true := by simp [hz]
                        have kz' : (n0 != 0) = false := by simp [hz]
                        clear hv hall1 hbad1 hz
                        go_wp2_with fail
                        refine (V.out _).mono ?_
                        rintro e w1 ⟨rfl, hb⟩
                        have T1 := Lib.hid (TO.out.bel hb)
                        have F1 := FO'.bel hb
                        have x1 := F1.cell (i := 1) rfl
                        have x2 := F1.cell (i := 2) rfl
                        clear hb TO F1
                        go_wp2_with fail
                        go_roundw
                        case rel => exact ⟨k + 1, by omega, by go_num, hg, T1⟩
                        case measure => simp [intOf]; omega
                      · have hR := hbad1.out (by unfold dmB; simp [hz])
                        have kz : (n0 == 0) = false := by simp [hz]
                        have kz' : (n0 != 0) = true := by simp [hz]
                        subst hR
                        clear hv hall1 hbad1 hz
                        go_wp2_with fail
                        refine (V.out _).mono ?_
                        rintro e w1 ⟨rfl, hb⟩
                        have T1 := Lib.hid (TO.out.bel hb)
                        have F1 := FO'.bel hb
                        have x1 := F1.cell (i := 1) rfl
                        have x2 := F1.cell (i := 2) rfl
                        clear hb TO F1
                        go_wp2_with fail
                        go_ret
                        exact ⟨rfl, T1.out.u⟩
        · obtain rfl : m = k := by omega
          have hR : R = true := by
            rw [← HR.out]
            unfold netB
            rw [hca.out, HN.out]
            have h3 : (fls.take m).all (flB n) = true := hok.out
            rw [List.take_of_length_le (by rw [HM.out]; omega)] at h3
            rw [h3]; rfl
          subst hR
          clear hok
          go_wp2_with fail
          go_ret
          exact ⟨rfl, T.out.u⟩
end Go.Proofs.Ytbdaehcngmhhcaa
