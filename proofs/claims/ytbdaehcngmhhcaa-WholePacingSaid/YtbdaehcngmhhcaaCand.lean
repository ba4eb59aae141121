/-
  The memory of a filling; contract of waterfill's candidate.
-/
import Derived.Test.YtbdaehcngmhhcaaModest
import Derived.Test.YtbdaehcngmhhcaaPcS
namespace Go.Proofs.Ytbdaehcngmhhcaa
open Go.RowKit
set_option linter.unusedVariables false

def bZ (fz : Nat → Bool) (i : Nat) : Value := .bool (fz i)
structure FlAt (w : World) (fb : Nat) (ca fa : Option Addr) (cc fc rb zb : Nat) (caps : List Rq) (fls : List Fw) (R : Nat → Rq) (fz : Nat → Bool) : Prop where
  b : Blk w fb 80 [.slice ca caps.length cc, .slice fa fls.length fc, .slice (some ⟨rb, 0, none⟩) fls.length fls.length, .slice (some ⟨zb, 0, none⟩) fls.length fls.length]
  net : NetAt w ca fa caps fls
  r : Blk w rb 29 (flC rC ((List.range fls.length).map R))
  z : Blk w zb 4 ((List.range fls.length).map (bZ fz))
section
variable {w w' : World} {fb : Nat} {ca fa : Option Addr} {cc fc rb zb : Nat} {caps : List Rq} {fls : List Fw} {R : Nat → Rq} {fz : Nat → Bool}
theorem FlAt.below (h : FlAt w fb ca fa cc fc rb zb caps fls R fz) (q : Below w.heap.size w w') : FlAt w' fb ca fa cc fc rb zb caps fls R fz := ⟨h.b.bel q, h.net.below q, h.r.bel q, h.z.bel q⟩
theorem FlAt.rc (h : FlAt w fb ca fa cc fc rb zb caps fls R fz) {i : Nat} (hi : i < fls.length) : w.cell? ⟨rb, i * 2, none⟩ = some (.int .i64 (R i).n) ∧ w.cell? ⟨rb, i * 2 + 1, none⟩ = some (.int .i64 (R i).d) := by
  have e : ((List.range fls.length).map R)[i]? = some (R i) := by simp [hi]
  exact ⟨h.r.cell (i := i * 2 + 0) (by rw [flC_get rC_len e 0 (by omega)]; rfl), h.r.cell (by rw [flC_get rC_len e 1 (by omega)]; rfl)⟩
theorem FlAt.zc (h : FlAt w fb ca fa cc fc rb zb caps fls R fz) {i : Nat} (hi : i < fls.length) : w.cell? ⟨zb, i, none⟩ = some (.bool (fz i)) := h.z.cell (by simp [hi, bZ])
end
/-- The net's numbers in whole units. -/
structure NtIs (N : Nt) (caps : List Rq) (fls : List Fw) : Prop where
  L : N.L = caps.length
  m : N.m = fls.length
  c : ∀ l r, caps[l]? = some r → Rp1 uU r (N.C l)
  f : ∀ (i : Nat) f, fls[i]? = some f → (∀ l < N.L, N.on l i = decide ((l : Int) ∈ f.lk)) ∧ N.bd i = f.bd ∧ Rp1 uU f.dm (N.dm i) ∧ f.lk.length ≤ maxLen
def opT (N : Nt) (fz : Nat → Bool) (l i : Nat) : Int := if !fz i && N.on l i then 1 else 0
def ldT (N : Nt) (fz : Nat → Bool) (r : Nat → Int) (l i : Nat) : Int := if fz i && N.on l i then r i else 0
def CdRel (w : World) (N : Nt) (fz : Nat → Bool) (l m : Nat) (op ix : Value) (wr : World) : Prop :=
  ∃ p : Nat, p ≤ m ∧ ix = .int .i64 p ∧ op = .int .i64 (sI (opT N fz l) p) ∧ Hid (B2 w wr 29 29 [.int .i64 0, .int .i64 0] [.int .i64 0, .int .i64 1])
def CsRel (w : World) (N : Nt) (fz : Nat → Bool) (r : Nat → Int) (l m : Nat) (ix : Value) (wr : World) : Prop :=
  ∃ (p : Nat) (s : Rq), p ≤ m ∧ ix = .int .i64 p ∧ Hid (Rp1 uU s (sI (ldT N fz r l) p)) ∧ Hid (B2 w wr 29 29 [.int .i64 0, .int .i64 0] [.int .i64 s.n, .int .i64 s.d])
theorem op_bd (N : Nt) (fz : Nat → Bool) (l : Nat) : ∀ p, 0 ≤ sI (opT N fz l) p ∧ sI (opT N fz l) p ≤ p
  | 0 => by simp [sI]
  | p + 1 => by
    have := op_bd N fz l p
    simp only [sI]
    have : 0 ≤ opT N fz l p ∧ opT N fz l p ≤ 1 := by unfold opT; split <;> omega
    omega
theorem ld_bd (N : Nt) (fz : Nat → Bool) (r : Nat → Int) (l m : Nat) (h : ∀ i < m, fz i = true → 0 ≤ r i ∧ r i ≤ uU) : ∀ p, p ≤ m → 0 ≤ sI (ldT N fz r l) p ∧ sI (ldT N fz r l) p ≤ p * uU
  | 0, _ => by simp [sI]
  | p + 1, hp => by
    have := ld_bd N fz r l m h p (by omega)
    simp only [sI]
    have h2 : 0 ≤ ldT N fz r l p ∧ ldT N fz r l p ≤ uU := by
      unfold ldT
      have hU : (0 : Int) ≤ uU := by decide
      split
      · rename_i hx
        simp only [Bool.and_eq_true] at hx
        exact h p (by omega) hx.1
      · omega
    have h3 : ((p + 1 : Nat) : Int) * uU = p * uU + uU := by rw [Int.natCast_succ, Int.add_mul, Int.one_mul]
    omega
def CdCut (w : World) (sn sd d1 d2 : Int) (v e : Value) (wx : World) : Prop :=
  ∃ b : Nat, v = .pointer (some ⟨b, 0, none⟩) ∧ e = .int .i64 0 ∧ Blk wx b 29 [.int .i64 d1, .int .i64 d2] ∧ B2 w wx 29 29 [.int .i64 0, .int .i64 0] [.int .i64 sn, .int .i64 sd]
def CdPost (w : World) (N : Nt) (fz : Nat → Bool) (r : Nat → Int) (l : Nat) (e : Ending) (w' : World) : Prop :=
  ∃ c : Rq, e = .returned (.tuple #[rV c, .bool (decide (0 < opF N fz l)), .int .i64 0]) ∧ (∀ q : Int, q * opF N fz l = N.C l - ldF N fz r l → 0 < opF N fz l → Rp1 uU c q) ∧ Below w.heap.size w w'
set_option maxRecDepth 100000 in
set_option maxHeartbeats 4000000 in
theorem cand_any (w : World) (fb : Nat) (ca fa : Option Addr) (cc fc rb zb : Nat) (caps : List Rq) (fls : List Fw) (R : Nat → Rq) (fz : Nat → Bool) (N : Nt) (r : Nat → Int) (l : Nat)
    (h : FlAt w fb ca fa cc fc rb zb caps fls R fz) (hN : NtIs N caps fls) (hl : l < caps.length) (hm : fls.length ≤ 5) (hcl : caps.length ≤ 1000) (hR : ∀ i < fls.length, fz i = true → Rp1 uU (R i) (r i) ∧ 0 ≤ r i ∧ r i ≤ uU)
    (hC : 0 ≤ N.C l ∧ N.C l ≤ uU) (hq : 0 < opF N fz l → ∃ q : Int, q * opF N fz l = N.C l - ldF N fz r l) :
    Calls Try.prog 57 #[.pointer (some ⟨fb, 0, none⟩), .int .i64 l] w (CdPost w N fz r l) := by
  have H := Lib.hid h
  have HN := Lib.hid hN
  have HR := Lib.hid hR
  have HQ := Lib.hid hq
  have hlL : l < N.L := by rw [hN.L]; exact hl
  have eop : opF N fz l = sI (opT N fz l) fls.length := by unfold opF opT; rw [hN.m]
  have eld : ldF N fz r l = sI (ldT N fz r l) fls.length := by unfold ldF ldT; rw [hN.m]
  have EOP := Lib.hid eop
  have ELD := Lib.hid eld
  have hbd := h.b.lt
  clear h hN hR hq eop eld
  have M2 := Lib.hid (fun c1 c2 => B2.mk_ w 29 29 c1 c2)
  generalize hmm : fls.length = m at *
  have HM := Lib.hid hmm
  clear hmm
  have c0 := H.out.b.cell (i := 0) rfl
  have c1 := H.out.b.cell (i := 1) rfl
  have c2 := H.out.b.cell (i := 2) rfl
  have c3 := H.out.b.cell (i := 3) rfl
  rw [HM.out] at c1 c2 c3
  generalize hnn : caps.length = n at *
  have HNN := Lib.hid hnn
  clear hnn
  go_enter Try.func57, Try.ntmps57
  go_wp2_with fail
  have T0 := Lib.hid (M2.out [.int .i64 0, .int .i64 0] [.int .i64 0, .int .i64 1])
  clear M2 c0 c1 c2 c3
  go_loopw [8, 25] (fun op ix wr => CdRel w N fz l m op ix wr) (fun _ ix _ => m - (intOf ix).toNat)
  case atStart => exact ⟨0, Nat.zero_le _, rfl, rfl, T0⟩
  case round =>
    clear T0
    obtain ⟨p, hp, rfl, rfl, T⟩ := hrel
    have F := H.out.below T.out.u
    have c0 := F.b.cell (i := 0) rfl
    have c1 := F.b.cell (i := 1) rfl
    have c2 := F.b.cell (i := 2) rfl
    have c3 := F.b.cell (i := 3) rfl
    rw [HM.out] at c1 c2 c3
    have hfb := F.b.lt
    have hob := op_bd N fz l p
    generalize hsp : sI (opT N fz l) p = sp at *
    have HSP := Lib.hid hsp
    clear hsp
    by_cases hpm : p < m
    · obtain ⟨f, ef, okf, fl, fb', fn, fd⟩ := F.net.f.f (k := p) (by rw [HM.out]; exact hpm)
      have hzc := F.zc (i := p) (by rw [HM.out]; exact hpm)
      have hzb := F.z.lt
      obtain ⟨g1, g2, g3, g4⟩ := HN.out.f p f ef.out
      have CT := fun w' (q : Below wr.heap.size wr w') => containsInt_any w' f.la f.lc f.lk l ((F.net.l f (List.mem_of_getElem? ef.out)).below q) g4
      have hon := g1 l hlL
      have hstep : sI (opT N fz l) (p + 1) = sp + opT N fz l p := by rw [← HSP.out]; rfl
      have hopt : opT N fz l p = if (!fz p && N.on l p) = true then 1 else 0 := rfl
      rw [hopt, hon] at hstep
      clear hopt
      clear g1 g2 g3 g4 hon F
      obtain ⟨la, lc, lk, bd, dm⟩ := f
      dsimp only at *
      generalize decide ((l : Int) ∈ lk) = q at *
      generalize lk.length = Lk at *
      generalize fz p = zf at *
      replace CT := Lib.hid CT
      replace hstep := Lib.hid hstep
      have T1 := Lib.hid (T.out.alloc_ (.cells #[.slice la Lk lc, .bool bd, .int .i64 dm.n, .int .i64 dm.d] 35))
      clear ef
      cases zf with
      | true =>
        go_wp2_with fail
        go_roundw
        case rel => exact ⟨p + 1, by omega, by go_num, by rw [hstep.out]; simp, T1⟩
        case measure => simp [intOf]; omega
      | false =>
        cases q with
        | false =>
          go_wp2_with fail
          refine (CT.out _ (alloc_belQ _ _)).mono ?_
          rintro e w1 ⟨rfl, hw⟩
          subst hw
          go_wp2_with fail
          go_roundw
          case rel => exact ⟨p + 1, by omega, by go_num, by rw [hstep.out]; simp, T1⟩
          case measure => simp [intOf]; omega
        | true =>
          go_wp2_with fail
          refine (CT.out _ (alloc_belQ _ _)).mono ?_
          rintro e w1 ⟨rfl, hw⟩
          subst hw
          go_wp2_with fail
          go_roundw
          case rel => exact ⟨p + 1, by omega, by go_num, by rw [hstep.out]; simp, T1⟩
          case measure => simp [intOf]; omega
    · obtain rfl : m = p := by omega
      rw [← EOP.out] at HSP
      by_cases h0 : sp = 0
      · have k0 : (sp == 0) = true := by simp [h0]
        have f0 := T.out.a.free
        have d0 := T.out.a.cell (i := 0) rfl
        have d1 := T.out.a.cell (i := 1) rfl
        have UB := T.out.u
        have hz : Hid (opF N fz l = 0) := by show _ = _; rw [HSP.out]; exact h0
        clear h0
        go_wp2_with fail
        exact bodyPost_ret (v := .tuple #[.agg #[.int .i64 0, .int .i64 0], .bool false, .int .i64 0]) (by simp [results, Try.results57, go_sem, d0, d1]) rfl ⟨⟨0, 0⟩, by rw [hz.out]; rfl, fun q _ hp => by rw [hz.out] at hp; omega, by (repeat' (first | with_reducible assumption | with_reducible exact Below.refl _ _ | with_reducible refine Below.drewQ ?_ | with_reducible refine Below.drewNQ ?_ _ | with_reducible refine Below.setCell ?_ (by dsimp only; omega) _ | with_reducible refine Below.alloc ?_ (by first | omega | (simp; done) | (simp; omega)) _))⟩
      · have k0 : (sp == 0) = false := by simp [h0]
        have hpos : 0 < opF N fz l := by rw [HSP.out]; omega
        obtain ⟨q, hq⟩ := HQ.out hpos
        have QQ := Lib.hid hq
        have HPOS := Lib.hid hpos
        clear hq hpos
        go_wp2_with fail
        go_loopw [56] (fun ix wr => CsRel w N fz r l m ix wr) (fun ix _ => m - (intOf ix).toNat)
        case atStart => exact ⟨0, ⟨0, 1⟩, Nat.zero_le _, rfl, Rp1.zero uU, T⟩
        case round =>
          clear T c0 c1 c2 c3 hfb
          obtain ⟨p, s, hp, rfl, hS, T⟩ := hrel
          have F := H.out.below T.out.u
          have c0 := F.b.cell (i := 0) rfl
          have c1 := F.b.cell (i := 1) rfl
          have c2 := F.b.cell (i := 2) rfl
          have c3 := F.b.cell (i := 3) rfl
          rw [HM.out] at c1 c2 c3
          rw [HNN.out] at c0
          have hfb := F.b.lt
          have z0 := T.out.lt
          have z1 : w.heap.size < wr.heap.size := by omega
          have hU : uU = 1244160 := rfl
          have hld := ld_bd N fz r l m (fun i hi hf => (HR.out i hi hf).2) p hp
          have hpU : (p : Int) * uU ≤ 5 * uU := Int.mul_le_mul_of_nonneg_right (by omega) (by decide)
          by_cases hpm : p < m
          · obtain ⟨f, ef, okf, fl, fb', fn, fd⟩ := F.net.f.f (k := p) (by rw [HM.out]; exact hpm)
            have hzc := F.zc (i := p) (by rw [HM.out]; exact hpm)
            have hzb := F.z.lt
            have hrc := F.rc (i := p) (by rw [HM.out]; exact hpm)
            have hrb := F.r.lt
            obtain ⟨rc0, rc1⟩ := hrc
            obtain ⟨g1, g2, g3, g4⟩ := HN.out.f p f ef.out
            have CT := fun w' (q : Below wr.heap.size wr w') => containsInt_any w' f.la f.lc f.lk l ((F.net.l f (List.mem_of_getElem? ef.out)).below q) g4
            have hon := g1 l hlL
            have hstep : sI (ldT N fz r l) (p + 1) = sI (ldT N fz r l) p + ldT N fz r l p := rfl
            have hldt : ldT N fz r l p = if (fz p && N.on l p) = true then r p else 0 := rfl
            rw [hldt, hon] at hstep
            have hRp := HR.out p hpm
            clear g1 g2 g3 g4 hon F hldt
            obtain ⟨la, lc, lk, bd, dm⟩ := f
            dsimp only at *
            generalize decide ((l : Int) ∈ lk) = qb at *
            generalize lk.length = Lk at *
            generalize hzf : fz p = zf at *
            replace CT := Lib.hid CT
            replace hstep := Lib.hid hstep
            have T1 := Lib.hid (T.out.alloc_ (.cells #[.slice la Lk lc, .bool bd, .int .i64 dm.n, .int .i64 dm.d] 35))
            clear ef
            cases zf with
            | false =>
              go_wp2_with fail
              go_roundw
              case rel => exact ⟨p + 1, s, by omega, by go_num, by rw [hstep.out]; simpa using hS, T1⟩
              case measure => simp [intOf]; omega
            | true =>
              cases qb with
              | false =>
                go_wp2_with fail
                refine (CT.out _ (alloc_belQ _ _)).mono ?_
                rintro e w1 ⟨rfl, hw⟩
                subst hw
                go_wp2_with fail
                go_roundw
                case rel => exact ⟨p + 1, s, by omega, by go_num, by rw [hstep.out]; simpa using hS, T1⟩
                case measure => simp [intOf]; omega
              | true =>
                obtain ⟨hR1, hR2, hR3⟩ := hRp rfl
                have AD := fun w => add_any s (R p) w (hS.out.sm uU_pos uU_le (by omega)) (hR1.sm uU_pos uU_le (by omega))
                have hS2 := Lib.hid (hS.out.add uU_pos hR1)
                generalize s.add (R p) = s2 at *
                generalize R p = rp at *
                unfold rV at AD
                obtain ⟨sn, sd⟩ := s
                obtain ⟨r1, r2⟩ := rp
                obtain ⟨t1, t2⟩ := s2
                dsimp only at *
                replace AD := Lib.hid AD
                clear hR1 hR2 hR3 hRp hld hpU
                go_wp2_with fail
                refine (CT.out _ (alloc_belQ _ _)).mono ?_
                rintro e w1 ⟨rfl, hw⟩
                subst hw
                go_wp2_with fail
                have TA := T1.out
                have TD := T1.out.qt (Qt.refl _).drew
                obtain ⟨b0, b1, b2, b3⟩ := T1.out.N
                go_region_with (first | (go_at_call 10; (with_reducible refine (AD.out _).mono ?_); rintro e w5 ⟨rfl, hb⟩; (have TT := (by first | exact B2.bel (by with_reducible assumption) hb | exact B2.bel (B2.qt (B2.alloc_ (by with_reducible assumption) _) (Qt.drew (Qt.refl _))) hb : B2 w w5 29 29 [.int .i64 0, .int .i64 0] [.int .i64 sn, .int .i64 sd])); obtain ⟨e0, e1, e2, e3⟩ := TT.N; have f1 := TT.b.free; have zt := TT.lt; (first | (have BB := Blk.bel (xs := [.int .i64 0, .int .i64 0]) (T := 29) (Blk.drew (Blk.new _ _ _)) hb; have y0 := BB.cell (i := 0) rfl; have y1 := BB.cell (i := 1) rfl; have fy := BB.free; have zy := BB.lt; simp only [World.size_alloc] at y0 y1 fy zy) | skip)))
                all_goals
                  go_wp2_with fail
                  go_roundw
                  case rel =>
                    first
                      | exact ⟨p + 1, ⟨t1, t2⟩, by omega, by go_num, by rw [hstep.out]; simpa using hS2, B2.alloc_ ⟨(TT.a.setO _ (by dsimp only; omega)).setO _ (by dsimp only; omega), (TT.b.set 0 _).set 1 _, (TT.u.setCell (by dsimp only; omega) _).setCell (by dsimp only; omega) _⟩ _⟩
                      | exact ⟨p + 1, ⟨t1, t2⟩, by omega, by go_num, by rw [hstep.out]; simpa using hS2, ⟨(((TT.a.setO _ (by dsimp only; omega)).setO _ (by dsimp only; omega)).setO _ (by dsimp only; omega)).setO _ (by dsimp only; omega), (((TT.b.setO _ (by dsimp only; omega)).setO _ (by dsimp only; omega)).set 0 _).set 1 _, (((TT.u.setCell (by dsimp only; omega) _).setCell (by dsimp only; omega) _).setCell (by dsimp only; omega) _).setCell (by dsimp only; omega) _⟩⟩
                  case measure => simp [intOf]; omega
          · obtain rfl : m = p := by omega
            obtain ⟨cr, er, okr, rn, rd⟩ := F.net.c.r (k := l) (by rw [HNN.out]; exact hl)
            have hcr := HN.out.c l cr er.out
            have hS3 : Rp1 uU s (ldF N fz r l) := by rw [ELD.out]; exact hS.out
            have hD := hcr.sub uU_pos hS3
            have SB := fun w => sub_any cr s w (hcr.sm uU_pos uU_le (by omega)) (hS.out.sm uU_pos uU_le (by omega))
            have hld2 : (N.C l - ldF N fz r l).natAbs ≤ 536870912 := by rw [ELD.out]; omega
            generalize cr.add ⟨-s.n, s.d⟩ = dd at *
            have hDs := hD.sm uU_pos uU_le hld2
            have hspl : sp ≤ m ∧ 1 ≤ sp := by omega
            obtain ⟨o, ho⟩ : ∃ o : Nat, sp = o := ⟨sp.toNat, by omega⟩
            have DV := fun w => div_any dd ⟨(o : Int), 1⟩ w hDs.zero ⟨.inr ⟨Int.le_refl _, Nat.coprime_one_right _⟩, by dsimp only; omega, by dsimp only; omega, by dsimp only; omega, by dsimp only; omega⟩ (by dsimp only; omega) ⟨.inr ⟨by dsimp only; omega, Nat.coprime_one_left _⟩, by dsimp only; omega, by dsimp only; omega, by dsimp only; omega, by dsimp only; omega⟩
            dsimp only at DV
            have hfin : Hid (∀ q : Int, q * opF N fz l = N.C l - ldF N fz r l → 0 < opF N fz l → Rp1 uU (dd.mul ⟨1, (o : Int)⟩) q) := fun q hq _ => hD.div uU_pos (o := o) (by omega) (by rw [← hq, HSP.out, ho])
            have hop : Hid (decide (0 < opF N fz l) = true) := by show _ = _; rw [HSP.out]; simp; omega
            generalize dd.mul ⟨1, (o : Int)⟩ = ee at *
            subst ho
            unfold rV at SB DV
            obtain ⟨sn, sd⟩ := s
            obtain ⟨cn, cd⟩ := cr
            obtain ⟨d1, d2⟩ := dd
            obtain ⟨e1', e2'⟩ := ee
            dsimp only at *
            replace SB := Lib.hid SB
            replace DV := Lib.hid DV
            clear hD hDs hld2 hS3 hS hcr er hld hpU F QQ HPOS hspl
            have hli : (l : Int) < (n : Int) := by omega
            have zc0 := World.block_lt_of_cell? _ _ rn
            have zc1 := World.block_lt_of_cell? _ _ rd
            go_upto_region 20 with (fail)
            go_cut [15, 16] (fun v e wx => CdCut w sn sd d1 d2 v e wx)
            case first =>
              have TA := T.out
              have TD := T.out.qt (Qt.refl _).drew
              obtain ⟨b0, b1, b2, b3⟩ := T.out.N
              go_region_with (first | (go_at_call 43; (with_reducible refine (SB.out _).mono ?_); rintro e w5 ⟨rfl, hb⟩; (have TT := (by first | exact B2.bel (by with_reducible assumption) hb | exact B2.bel (B2.qt (B2.alloc_ (by with_reducible assumption) _) (Qt.drew (Qt.refl _))) hb : B2 w w5 29 29 [.int .i64 0, .int .i64 0] [.int .i64 sn, .int .i64 sd])); have zt := TT.lt; (first | (have BB := Blk.bel (xs := [.int .i64 0, .int .i64 0]) (T := 29) (Blk.drew (Blk.new _ _ _)) hb; have y0 := BB.cell (i := 0) rfl; have y1 := BB.cell (i := 1) rfl; have fy := BB.free; have zy := BB.lt) | skip)))
              all_goals
                go_wp2_with fail
                go_meet
                first
                  | exact ⟨_, rfl, rfl, Blk.new _ _ _, TT.alloc_ _⟩
                  | exact ⟨_, rfl, rfl, (BB.set 0 _).set 1 _, (TT.far (by dsimp only; omega) _).far (by dsimp only; omega) _⟩
            case rest =>
              obtain ⟨b15, rfl, rfl, B15, T5⟩ := hcut
              have y0 := B15.cell (i := 0) rfl
              have y1 := B15.cell (i := 1) rfl
              have T5 := Lib.hid T5
              clear B15 T rn rd okr c0 c1 c2 c3
              go_wp2_with fail
              refine (DV.out _).mono ?_
              rintro e w6 ⟨rfl, hb⟩
              have T6 := Lib.hid (T5.out.bel hb)
              clear hb T5 y0 y1
              have q0 := T6.out.a.cell (i := 0) rfl
              have q1 := T6.out.a.cell (i := 1) rfl
              have f0 := T6.out.a.free
              have UB := T6.out.u
              have z6 := T6.out.lt
              have z7 : w.heap.size < w6.heap.size := by omega
              go_wp2_with fail
              exact bodyPost_ret (v := .tuple #[.agg #[.int .i64 e1', .int .i64 e2'], .bool true, .int .i64 0]) (by simp [results, Try.results57, go_sem, q0, q1, z7, z6]) rfl ⟨⟨e1', e2'⟩, by rw [hop.out]; rfl, hfin.out, by (repeat' (first | with_reducible assumption | with_reducible exact Below.refl _ _ | with_reducible refine Below.drewQ ?_ | with_reducible refine Below.drewNQ ?_ _ | with_reducible refine Below.setCell ?_ (by dsimp only; omega) _ | with_reducible refine Below.alloc ?_ (by first | omega | (simp; done) | (simp; omega)) _))⟩
end Go.Proofs.Ytbdaehcngmhhcaa
