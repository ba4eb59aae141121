/-
  Contract of waterfill's level.
-/
import Derived.Test.YtbdaehcngmhhcaaLvB
import Derived.Laws.EntriesVeiled
namespace Go.Proofs.Ytbdaehcngmhhcaa
open Go.RowKit
set_option linter.unusedVariables false

set_option maxRecDepth 100000 in
set_option maxHeartbeats 4000000 in
theorem level_any (w : World) (fb : Nat) (ca fa : Option Addr) (cc fc rb zb : Nat) (caps : List Rq) (fls : List Fw) (R : Nat → Rq) (fz : Nat → Bool) (N : Nt) (r q : Nat → Int)
    (h : FlAt w fb ca fa cc fc rb zb caps fls R fz) (hN : NtIs N caps fls) (hm : fls.length ≤ 5) (hcl : caps.length ≤ 1000) (hR : ∀ i < fls.length, fz i = true → Rp1 uU (R i) (r i) ∧ 0 ≤ r i ∧ r i ≤ uU)
    (hC : ∀ l < N.L, 0 ≤ N.C l ∧ N.C l ≤ uU) (hq : ∀ l < N.L, 0 < opF N fz l → q l * opF N fz l = N.C l - ldF N fz r l ∧ 0 ≤ q l ∧ q l ≤ uU) (hD : ∀ i < fls.length, N.bd i = true → (N.dm i).natAbs ≤ 1000000000)
    (hK : ∀ (i : Nat) f, fls[i]? = some f → ∀ x ∈ f.lk, 0 ≤ x ∧ x < caps.length) :
    Calls Try.prog 38 #[.pointer (some ⟨fb, 0, none⟩)] w (LvPost w N fls fz q caps.length fls.length) := by
  have HK := Lib.hid hK
  have H := Lib.hid h
  have HN := Lib.hid hN
  have HQ := Lib.hid hq
  have HD := Lib.hid hD
  have hL := hN.L
  have CA := Lib.hid (fun wr (b : Below w.heap.size w wr) l (hl : l < caps.length) => cand_any wr fb ca fa cc fc rb zb caps fls R fz N r l (h.below b) hN hl hm hcl hR (hC l (by rw [hN.L]; exact hl)) (fun x => ⟨q l, (hq l (by rw [hN.L]; exact hl) x).1⟩))
  have c0 := h.b.cell (i := 0) rfl
  have c1 := h.b.cell (i := 1) rfl
  have c2 := h.b.cell (i := 2) rfl
  have c3 := h.b.cell (i := 3) rfl
  have hbd := h.b.lt
  have hb1 : fb < w.heap.size + 1 := by omega
  have hb2 : fb < w.heap.size + 1 + 1 := by omega
  have hb3 : fb < w.heap.size + 1 + 1 + 1 := by omega
  have hb4 : fb < w.heap.size + 1 + 1 + 1 + 1 := by omega
  have hb5 : fb < w.heap.size + 2 := by omega
  have hb6 : fb < w.heap.size + 3 := by omega
  clear h hN hR hq hC hD hK
  generalize hnn : caps.length = n at *
  have HNN := Lib.hid hnn
  clear hnn
  have mk1 := fun w => make_rats w n hcl
  have mk2 := fun w => make_bools w n hcl
  go_enter Try.func38, Try.ntmps38
  go_wp2_with fail
  have T0 := Lib.hid (LvAt.start w n)
  clear mk1 mk2 c0 c1 c2 c3
  go_loopw [38] (fun ix wr => L1Rel w N fz q n ix wr) (fun ix _ => n - (intOf ix).toNat)
  case atStart => exact ⟨0, _, _, _, _, 0, Nat.zero_le _, rfl, T0, fun l hl => ⟨by simp, fun x => by cases x⟩, Lst.start _ (fun x ⟨l, hl, _⟩ => by omega) _⟩
  case round =>
    clear T0
    obtain ⟨p, ql, us, fnd, least, k, hp, rfl, T, hus, hL1⟩ := hrel
    by_cases hpn : p < n
    --DEV(
    · have CP := Lib.hid (CA.out wr T.out.u p hpn)
      by_cases hop : 0 < opF N fz p
      · obtain ⟨hq1, hq2, hq3⟩ := HQ.out p (by rw [hL]; exact hpn) hop
        have HOP := Lib.hid hop
        unfold CdPost at CP
        rw [decide_eq_true hop] at CP
        clear hop
        go_wp2_with fail
        refine CP.out.mono ?_
        rintro e w1 ⟨c, rfl, hc, hb⟩
        have hcr := Lib.hid (hc _ hq1 HOP.out)
        have T1 := Lib.hid (T.out.below hb)
        have hus' : Hid (∀ l < n, updQ us p true l = (decide (l < p + 1) && decide (0 < opF N fz l)) ∧ (updQ us p true l = true → Rp1 uU (updQ ql p c l) (q l))) := fun l hl => by
          obtain ⟨g1, g2⟩ := hus.out l hl
          unfold updQ
          by_cases e : l = p
          · subst e
            rw [if_pos rfl, if_pos rfl]
            exact ⟨by simp [HOP.out], fun _ => hcr.out⟩
          · rw [if_neg e, if_neg e]
            refine ⟨?_, g2⟩
            rw [g1]
            have : (l < p + 1) ↔ (l < p) := by omega
            simp only [this]
        have hL2 : Hid (Lst (fun x => ∃ l < p + 1, 0 < opF N fz l ∧ x = q l) (fnd || consP fnd least c) (if consP fnd least c then c else least) (if consP fnd least c then q p else k)) :=
          (hL1.out.cons hcr.out).congr fun x => by
            constructor
            · rintro (⟨l, h1, h2, h3⟩ | h)
              · exact ⟨l, by omega, h2, h3⟩
              · exact ⟨p, by omega, HOP.out, h⟩
            · rintro ⟨l, h1, h2, h3⟩
              by_cases e : l = p
              · subst e; exact .inr h3
              · exact .inl ⟨l, by omega, h2, h3⟩
        have TP := Lib.hid ((T1.out.put hpn c).below (alloc_belQ _ (.cells #[.int .i64 c.n, .int .i64 c.d] 29)))
        have hok : c.ok = true := Rp.ok uU_pos (by decide) (by have : uU = 1244160 := rfl; omega) hcr.out.rp
        have CN := Lib.hid (consider_any _ _ _ fnd least c TP.out.fo TP.out.le (by omega) hok (fun x => (by
          have h1 := hL1.out.rp x
          obtain ⟨l, h2, h3, h4⟩ := hL1.out.mem x
          obtain ⟨h5, h6, h7⟩ := HQ.out l (by omega) h3
          exact Rp.ok uU_pos (by decide) (by have : uU = 1244160 := rfl; omega) h1.rp)))
        unfold rV at CN
        obtain ⟨y0, y1⟩ := T1.out.lnc hpn
        have y2 := T1.out.usc hpn
        have f1 := T1.out.ln.free
        have f2 := T1.out.us.free
        have z := T1.out.lt
        have z1 := T1.out.ln.lt
        obtain ⟨cn, cd⟩ := c
        unfold rV
        dsimp only at *
        clear hc hb T CP hcr hok hL1 hus
        go_wp2_with fail
        refine CN.out.mono ?_
        rintro e w2 ⟨rfl, h1, h2, h3⟩
        have TC := Lib.hid (TP.out.cons h1 h2 h3)
        clear h1 h2 h3 CN TP T1
        go_wp2_with fail
        go_roundw
        case rel => exact ⟨p + 1, _, _, _, _, _, by omega, by go_num, TC, hus', hL2⟩
        case measure => simp [intOf]; omega
      · have hus' : Hid (∀ l < n, us l = (decide (l < p + 1) && decide (0 < opF N fz l)) ∧ (us l = true → Rp1 uU (ql l) (q l))) := fun l hl => by
          obtain ⟨g1, g2⟩ := hus.out l hl
          refine ⟨?_, g2⟩
          rw [g1]
          by_cases e : l = p
          · subst e; simp [hop]
          · have : (l < p + 1) ↔ (l < p) := by omega
            simp only [this]
        have hL2 : Hid (Lst (fun x => ∃ l < p + 1, 0 < opF N fz l ∧ x = q l) fnd least k) := hL1.out.congr fun x => by
          constructor
          · rintro ⟨l, h1, h2, h3⟩
            exact ⟨l, by omega, h2, h3⟩
          · rintro ⟨l, h1, h2, h3⟩
            by_cases e : l = p
            · subst e; exact absurd h2 hop
            · exact ⟨l, by omega, h2, h3⟩
        unfold CdPost at CP
        rw [decide_eq_false hop] at CP
        clear hop
        go_wp2_with fail
        refine CP.out.mono ?_
        rintro e w1 ⟨c, rfl, hc, hb⟩
        have T1 := Lib.hid ((T.out.below hb).below (alloc_belQ _ (.cells #[.int .i64 c.n, .int .i64 c.d] 29)))
        obtain ⟨cn, cd⟩ := c
        unfold rV
        dsimp only at *
        clear hc hb T CP hL1 hus
        go_wp2_with fail
        go_roundw
        case rel => exact ⟨p + 1, _, _, _, _, _, by omega, by go_num, T1, hus', hL2⟩
        case measure => simp [intOf]; omega
    --DEV)
    · obtain rfl : n = p := by omega
      clear CA
      have F := H.out.below T.out.u
      have c0 := F.b.cell (i := 0) rfl
      have c1 := F.b.cell (i := 1) rfl
      have c2 := F.b.cell (i := 2) rfl
      have c3 := F.b.cell (i := 3) rfl
      have hfb := F.b.lt
      rw [HNN.out] at c0
      have HB := Lib.hid hm
      clear F
      generalize hmm : fls.length = m at *
      have HM := Lib.hid hmm
      clear hmm
      have hS : Hid (Lst (Sv N fz q n 0) fnd least k) := hL1.out.congr fun x => by
        unfold Sv
        constructor
        · exact fun h => .inl h
        · rintro (h | ⟨i, h1, _⟩)
          · exact h
          · omega
      clear hL1
      go_wp2_with fail
      clear c0 c1 c2 c3 hfb
      go_loopw [70] (fun ix wr => L2Rel w N fz q n m ql us ix wr) (fun ix _ => m - (intOf ix).toNat)
      case atStart => exact ⟨0, _, _, _, Nat.zero_le _, rfl, T, hS⟩
      case round =>
        clear T hS
        obtain ⟨p, fnd, least, k, hp, rfl, T, hS⟩ := hrel
        have F := H.out.below T.out.u
        have c0 := F.b.cell (i := 0) rfl
        have c1 := F.b.cell (i := 1) rfl
        have c2 := F.b.cell (i := 2) rfl
        have c3 := F.b.cell (i := 3) rfl
        rw [HM.out] at c1 c2 c3
        have hfb := F.b.lt
        have hwr := T.out.lt
        by_cases hpm : p < m
        --DEV(
        · obtain ⟨f, ef, okf, fl, fb', fn, fd⟩ := F.net.f.f (k := p) (by rw [HM.out]; exact hpm)
          have hzc := F.zc (i := p) (by rw [HM.out]; exact hpm)
          have hzb := F.z.lt
          obtain ⟨g1, g2, g3, g4⟩ := HN.out.f p f ef.out
          have G2 := Lib.hid g2
          have G3 := Lib.hid g3
          have T1 := Lib.hid (T.out.below (alloc_belQ _ (.cells #[.slice f.la f.lk.length f.lc, .bool f.bd, .int .i64 f.dm.n, .int .i64 f.dm.d] 35)))
          clear g1 g2 g3 g4 F ef
          obtain ⟨la, lc, lk, bd, dm⟩ := f
          dsimp only at *
          generalize lk.length = Lk at *
          have ZF := Lib.hid (rfl : fz p = fz p)
          generalize hzf : fz p = zf at hzc
          have HZ := Lib.hid hzf
          clear hzf ZF
          cases zf with
          | true =>
            have hS2 : Hid (Lst (Sv N fz q n (p + 1)) fnd least k) := hS.out.congr (Sv.skip (by rw [HZ.out]; simp))
            go_wp2_with fail
            go_roundw
            case rel => exact ⟨p + 1, _, _, _, by omega, by go_num, T1, hS2⟩
            case measure => simp [intOf]; omega
          | false =>
            cases bd with
            | false =>
              have hS2 : Hid (Lst (Sv N fz q n (p + 1)) fnd least k) := hS.out.congr (Sv.skip (by rw [G2.out]; simp))
              go_wp2_with fail
              go_roundw
              case rel => exact ⟨p + 1, _, _, _, by omega, by go_num, T1, hS2⟩
              case measure => simp [intOf]; omega
            | true =>
              have hok : dm.ok = true := Rp.ok uU_pos (by decide) (HD.out p hpm G2.out) G3.out.rp
              have CN := Lib.hid (consider_any _ _ _ fnd least dm T1.out.fo T1.out.le (by omega) hok (fun x => (by
                have h1 := hS.out.rp x
                rcases hS.out.mem x with ⟨l, h2, h3, h4⟩ | ⟨i, h2, h3, h4, h5⟩
                · have hL' : l < N.L := by rw [hL]; exact h2
                  obtain ⟨h5, h6, h7⟩ := HQ.out l hL' h3
                  exact Rp.ok uU_pos (by decide) (by have : uU = 1244160 := rfl; omega) h1.rp
                · have h6 := HD.out i (by omega) h4
                  exact Rp.ok uU_pos (by decide) (by omega) h1.rp)))
              have hS2 : Hid (Lst (Sv N fz q n (p + 1)) (fnd || consP fnd least dm) (if consP fnd least dm then dm else least) (if consP fnd least dm then N.dm p else k)) :=
                (hS.out.cons G3.out).congr (Sv.take ⟨HZ.out, G2.out⟩)
              unfold rV at CN
              obtain ⟨dn, dd⟩ := dm
              dsimp only at *
              clear hok hS
              go_wp2_with fail
              refine CN.out.mono ?_
              rintro e w2 ⟨rfl, h1, h2, h3⟩
              have TC := Lib.hid (T1.out.cons h1 h2 h3)
              clear h1 h2 h3 CN T1 T
              go_wp2_with fail
              go_roundw
              case rel => exact ⟨p + 1, _, _, _, by omega, by go_num, TC, hS2⟩
              case measure => simp [intOf]; omega
        --DEV)
        · obtain rfl : m = p := by omega
          clear c0 c1 c2 c3
          have c1 := F.b.cell (i := 1) rfl
          rw [HM.out] at c1
          clear F
          have le0 := T.out.le.cell (i := 0) rfl
          have le1 := T.out.le.cell (i := 1) rfl
          have lef := T.out.le.free
          have tf := T.out.t.free
          have y0 : w.heap.size < wr.heap.size := by omega
          have y1 : w.heap.size + 1 < wr.heap.size := by omega
          have XA := Lib.hid (fun o => T.out.below (alloc_belQ wr o))
          rcases Decidable.em (least.n = 0) with hz | hz
          all_goals first
            | (have k0 : (least.n == 0) = true := by rw [hz]; rfl
               obtain ⟨ln, ld⟩ := least
               dsimp only at *
               obtain ⟨rate, hrt⟩ : ∃ rate : Rq, rate = ⟨0, 1⟩ := ⟨_, rfl⟩
               go_wp2_with fail
               clear k0)
            | (have k0 : (least.n == 0) = false := by simp [hz]
               obtain ⟨ln, ld⟩ := least
               dsimp only at *
               obtain ⟨rate, hrt⟩ : ∃ rate : Rq, rate = ⟨ln, ld⟩ := ⟨_, rfl⟩
               go_wp2_with fail
               clear k0)
          all_goals
            clear le0 le1 lef tf y1
            replace hz := Lib.hid hz
            replace hS := Lib.hid hS
            generalize hkb0 : wr.heap.size = kb at *
            replace hkb0 := Lib.hid hkb0
            go_loopw [105] (fun ix wr' => L3Rel w kb n m rate ql us fnd ⟨ln, ld⟩ fz (hereB fls ql us ⟨ln, ld⟩) ix wr') (fun ix _ => m - (intOf ix).toNat)
            case atStart => subst hrt; exact ⟨0, _, 0, Nat.zero_le _, rfl, XA.out _, Lib.hid (by rw [← hkb0.out]; exact Blk.new _ _ _), Lib.hid (ownsRow_nil _ _ _), hwr⟩
            case round =>
              clear T XA hwr y0 hfb c1
              obtain ⟨p, v, kr, hp, rfl, T, B, O, hkb⟩ := hrel
              have F := H.out.below T.out.u
              have c0 := F.b.cell (i := 0) rfl
              have c1 := F.b.cell (i := 1) rfl
              have c2 := F.b.cell (i := 2) rfl
              have c3 := F.b.cell (i := 3) rfl
              rw [HM.out] at c1 c2 c3
              have hfb := F.b.lt
              have hwr := T.out.lt
              have y0 : w.heap.size + 1 < wr.heap.size := by omega
              by_cases hpm : p < m
              · obtain ⟨f, ef, okf, fl, fb', fn, fd⟩ := F.net.f.f (k := p) (by rw [HM.out]; exact hpm)
                have hzc := F.zc (i := p) (by rw [HM.out]; exact hpm)
                have hzb := F.z.lt
                have HSL := Lib.hid (fun w' (F' : FlAt w' fb ca fa cc fc rb zb caps fls R fz) => F'.net.l f (List.mem_of_getElem? ef.out))
                clear F
                have T1 := Lib.hid (fun o => T.out.below (alloc_belQ wr o))
                have B1 := Lib.hid (fun o => B.out.alloc o)
                have O1 := Lib.hid (fun o => own_alloc O.out o)
                generalize hzf : fz p = zf at hzc
                have HZ := Lib.hid hzf
                clear hzf
                cases zf with
                | true =>
                  clear hz HSL
                  go_wp2_with fail
                  go_roundw
                  case rel => exact ⟨p + 1, v, kr, by omega, by go_num, T1.out _, B1.out _, Lib.hid (by rw [rowH_skip (by rw [HZ.out]; rfl)]; exact O1.out _), hkb⟩
                  case measure => simp [intOf]; omega
                | false =>
                  obtain ⟨g1, g2, g3, g4⟩ := HN.out.f p f ef.out
                  have HKp := Lib.hid (fun j x (hj : f.lk[j]? = some x) => HK.out p f ef.out x (List.mem_of_getElem? hj))
                  have hlen : f.lk.length ≤ maxLen := g4
                  unfold maxLen at hlen
                  have HB := Lib.hid (show hereB fls ql us ⟨ln, ld⟩ p = ((f.bd && f.dm.cmp ⟨ln, ld⟩ == 0) || f.lk.any (hereL ql us ⟨ln, ld⟩)) by unfold hereB; rw [ef.out])
                  have LOK : Hid (fnd = true → (⟨ln, ld⟩ : Rq).ok = true) := fun x => least_ok hL HQ.out HD.out hS.out x
                  have G2 := Lib.hid g2
                  have G3 := Lib.hid g3
                  clear g1 g2 g3 g4 ef
                  obtain ⟨la, lc, lk, bd, dm⟩ := f
                  dsimp only at *
                  obtain ⟨h0, hh0⟩ : ∃ h0 : Bool, h0 = (bd && dm.cmp ⟨ln, ld⟩ == 0) := ⟨_, rfl⟩
                  replace HB : Hid (hereB fls ql us ⟨ln, ld⟩ p = (h0 || lk.any (hereL ql us ⟨ln, ld⟩))) := by rw [hh0]; exact HB
                  have HH0 := Lib.hid hh0
                  clear hh0
                  have hbd : bd = true ∨ bd = false := by cases bd <;> simp
                  rcases hbd with rfl | rfl
                  case' inl =>
                      (have hfnd : fnd = true := by
                         cases fnd with
                         | true => rfl
                         | false => exact absurd (.inr ⟨p, hpm, HZ.out, G2.out, rfl⟩) (hS.out.no rfl (N.dm p))
                       have hokd : dm.ok = true := Rp.ok uU_pos (by decide) (HD.out p hpm G2.out) G3.out.rp
                       have CM := fun w => cmp_any dm ⟨ln, ld⟩ w hokd (LOK.out hfnd)
                       have T4 := fun o w1 b => (T1.out o).below (w' := w1) b
                       have B4 := fun o w1 b => (B1.out o).bel (w' := w1) b
                       have O4 := fun o w1 b => own_upd (w' := w1) (O1.out o) (Upd.of_below (S := fun _ => False) b) (fun _ _ => id)
                       unfold rV at CM
                       obtain ⟨dn, dd⟩ := dm
                       dsimp only at *
                       obtain ⟨cm, hcm⟩ : ∃ cm, cm = Rq.cmp ⟨dn, dd⟩ ⟨ln, ld⟩ := ⟨_, rfl⟩
                       rw [← hcm] at CM
                       replace CM := Lib.hid CM
                       replace T4 := Lib.hid T4
                       replace B4 := Lib.hid B4
                       replace O4 := Lib.hid O4
                       have HH : Hid (h0 = decide (cm = 0)) := by show h0 = _; rw [HH0.out, hcm]; simp; rfl
                       have HCM := Lib.hid hcm
                       clear hcm hfnd hokd HH0 hz
                       have le0 := T.out.le.cell (i := 0) rfl
                       have le1 := T.out.le.cell (i := 1) rfl
                       go_wp2_with fail
                       refine (CM.out _).mono ?_
                       rintro e w1 ⟨rfl, hb⟩
                       replace T4 := Lib.hid (T4.out _ _ hb)
                       replace B4 := Lib.hid (B4.out _ _ hb)
                       replace O4 := Lib.hid (O4.out _ _ hb)
                       have z0 := ((Blk.new wr 35 [.slice la lk.length lc, .bool true, .int .i64 dn, .int .i64 dd]).bel hb).cell (i := 0) rfl
                       clear hb CM le0 le1 T1 B1 O1 G2 G3
                       have HH' := HH
                       clear HH HCM
                       go_wp2_with fail)
                  case' inr =>
                      (have HH' : Hid (h0 = false) := by show h0 = _; rw [HH0.out]; rfl
                       have T4 := T1
                       have B4 := B1
                       have O4 := O1
                       clear hz HH0 G2 G3
                       go_wp2_with fail)
                  all_goals
                    go_loopw [18, 129] (fun hv ix wr' => L4Rel w kb n rate ql us fnd ⟨ln, ld⟩ (rowH fz (hereB fls ql us ⟨ln, ld⟩) p) v kr h0 lk hv ix wr') (fun _ ix _ => lk.length - (intOf ix).toNat)
                    case atStart =>
                      first
                        | exact ⟨0, Nat.zero_le _, rfl, by rw [HH'.out, List.take_zero, List.any_nil, Bool.or_false]; rfl, T4.out, B4.out, O4.out⟩
                        | exact ⟨0, Nat.zero_le _, rfl, by rw [HH'.out]; rfl, T4.out _, B4.out _, O4.out _⟩
                    case round =>
                      clear T B O T4 B4 O4 HH' hwr y0 hfb
                      obtain ⟨j, hj, rfl, hhv, T, B, O⟩ := hrel
                      have hwr := T.out.lt
                      have le0 := T.out.le.cell (i := 0) rfl
                      have le1 := T.out.le.cell (i := 1) rfl
                      by_cases hjl : j < lk.length
                      --DEV(
                      · obtain ⟨x, ex, okx, fx⟩ := (HSL.out _ (H.out.below T.out.u)).get hjl
                        obtain ⟨hx0, hx1⟩ := HKp.out j x ex.out
                        obtain ⟨xl, rfl⟩ := Int.eq_ofNat_of_zero_le hx0
                        have hxn : xl < n := by omega
                        have y1 := T.out.usc hxn
                        obtain ⟨y2, y3⟩ := T.out.lnc hxn
                        have NX := Lib.hid (any_step (g := hereL ql us ⟨ln, ld⟩) h0 ex.out)
                        clear ex
                        subst hhv
                        generalize (h0 || (lk.take j).any (hereL ql us ⟨ln, ld⟩)) = hc at *
                        have TD := Lib.hid (And.intro (T.out.below (Qt.refl wr).drew.bel) (And.intro (B.out.bel (Qt.refl wr).drew.bel) (own_upd O.out (Upd.of_below (S := fun _ => False) (Qt.refl wr).drew.bel) (fun _ _ => id))))
                        have hu0 := hus.out xl hxn
                        generalize hu : us xl = u at y1
                        replace hu := Lib.hid hu
                        clear T B O
                        go_upto_region 33 with (fail)
                        cases hc with
                        | true =>
                          refine wp_region_allH (fun wx => wx.cell? ⟨w.heap.size + 1 + 1 + 1 + 1, xl, none⟩ = some (.bool u) ∧ wx.cell? ⟨w.heap.size + 1 + 1 + 1, xl * 2, none⟩ = some (.int .i64 (ql xl).n) ∧ wx.cell? ⟨w.heap.size + 1 + 1 + 1, xl * 2 + 1, none⟩ = some (.int .i64 (ql xl).d) ∧ wx.cell? ⟨w.heap.size + 1, 0, none⟩ = some (.int .i64 ln) ∧ wx.cell? ⟨w.heap.size + 1, 1, none⟩ = some (.int .i64 ld) ∧ LvAt w wx n ql us fnd ⟨ln, ld⟩ ∧ Blk wx kb 57 [.int .i64 rate.n, .int .i64 rate.d, v] ∧ wx.ownsRow (kb + 1) 3 1 v kr (rowH fz (hereB fls ql us ⟨ln, ld⟩) p)) 17 (by kernel_rfl) rfl ?_ (fun hHeld => ?_)
                          · (exact ⟨y1, y2, y3, le0, le1, TD.out⟩)
                          refine wpAnyH_takeG (i := 0) (v := ?_) rfl (by kernel_rfl) (by kernel_rfl) (by kernel_rfl) (fun _ _ _ h => h) rfl ?_ hHeld ?_
                          rotate_left
                          · intro w hSw
                            try dsimp only at hSw
                            go_simp
                            all_goals with_reducible rfl
                          try simp only [Act.put, List.setIfInBounds_toArray, List.set_cons_zero, List.set_cons_succ]
                          refine wpAnyH_takeG (i := 1) (v := ?_) rfl (by kernel_rfl) (by kernel_rfl) (by kernel_rfl) (fun _ _ _ h => h) rfl ?_ hHeld ?_
                          rotate_left
                          · intro w hSw
                            try dsimp only at hSw
                            go_simp
                            all_goals with_reducible rfl
                          try simp only [Act.put, List.setIfInBounds_toArray, List.set_cons_zero, List.set_cons_succ]
                          refine wpAnyH_skipL (i := 2) rfl (by kernel_rfl) (by kernel_rfl) (by kernel_rfl) (fun _ _ _ h => h) rfl hHeld ?_
                          try simp only [Act.put, List.setIfInBounds_toArray, List.set_cons_zero, List.set_cons_succ]
                          refine wpAnyH_skipL (i := 3) rfl (by kernel_rfl) (by kernel_rfl) (by kernel_rfl) (fun _ _ _ h => h) rfl hHeld ?_
                          try simp only [Act.put, List.setIfInBounds_toArray, List.set_cons_zero, List.set_cons_succ]
                          refine wpAnyH_skipL (i := 4) rfl (by kernel_rfl) (by kernel_rfl) (by kernel_rfl) (fun _ _ _ h => h) rfl hHeld ?_
                          try simp only [Act.put, List.setIfInBounds_toArray, List.set_cons_zero, List.set_cons_succ]
                          refine wpAnyH_skipL (i := 5) rfl (by kernel_rfl) (by kernel_rfl) (by kernel_rfl) (fun _ _ _ h => h) rfl hHeld ?_
                          try simp only [Act.put, List.setIfInBounds_toArray, List.set_cons_zero, List.set_cons_succ]
                          refine wpAnyH_skipL (i := 6) rfl (by kernel_rfl) (by kernel_rfl) (by kernel_rfl) (fun _ _ _ h => h) rfl hHeld ?_
                          try simp only [Act.put, List.setIfInBounds_toArray, List.set_cons_zero, List.set_cons_succ]
                          refine wpAnyH_skipL (i := 7) rfl (by kernel_rfl) (by kernel_rfl) (by kernel_rfl) (fun _ _ _ h => h) rfl hHeld ?_
                          try simp only [Act.put, List.setIfInBounds_toArray, List.set_cons_zero, List.set_cons_succ]
                          refine wpAnyH_skipL (i := 8) rfl (by kernel_rfl) (by kernel_rfl) (by kernel_rfl) (fun _ _ _ h => h) rfl hHeld ?_
                          try simp only [Act.put, List.setIfInBounds_toArray, List.set_cons_zero, List.set_cons_succ]
                          refine wpAnyH_skipL (i := 9) rfl (by kernel_rfl) (by kernel_rfl) (by kernel_rfl) (fun _ _ _ h => h) rfl hHeld ?_
                          try simp only [Act.put, List.setIfInBounds_toArray, List.set_cons_zero, List.set_cons_succ]
                          refine wpAnyH_skipL (i := 10) rfl (by kernel_rfl) (by kernel_rfl) (by kernel_rfl) (fun _ _ _ h => h) rfl hHeld ?_
                          try simp only [Act.put, List.setIfInBounds_toArray, List.set_cons_zero, List.set_cons_succ]
                          refine wpAnyH_skipL (i := 11) rfl (by kernel_rfl) (by kernel_rfl) (by kernel_rfl) (fun _ _ _ h => h) rfl hHeld ?_
                          try simp only [Act.put, List.setIfInBounds_toArray, List.set_cons_zero, List.set_cons_succ]
                          refine wpAnyH_skipL (i := 12) rfl (by kernel_rfl) (by kernel_rfl) (by kernel_rfl) (fun _ _ _ h => h) rfl hHeld ?_
                          try simp only [Act.put, List.setIfInBounds_toArray, List.set_cons_zero, List.set_cons_succ]
                          refine wpAnyH_skipL (i := 13) rfl (by kernel_rfl) (by kernel_rfl) (by kernel_rfl) (fun _ _ _ h => h) rfl hHeld ?_
                          try simp only [Act.put, List.setIfInBounds_toArray, List.set_cons_zero, List.set_cons_succ]
                          refine wpAnyH_skipL (i := 14) rfl (by kernel_rfl) (by kernel_rfl) (by kernel_rfl) (fun _ _ _ h => h) rfl hHeld ?_
                          try simp only [Act.put, List.setIfInBounds_toArray, List.set_cons_zero, List.set_cons_succ]
                          refine wpAnyH_takeG (i := 15) (v := ?_) rfl (by kernel_rfl) (by kernel_rfl) (by kernel_rfl) (fun _ _ _ h => h) rfl ?_ hHeld ?_
                          rotate_left
                          · intro w hSw
                            try dsimp only at hSw
                            go_simp
                            all_goals with_reducible rfl
                          try simp only [Act.put, List.setIfInBounds_toArray, List.set_cons_zero, List.set_cons_succ]
                          refine wpAnyH_takeG (i := 16) (v := ?_) rfl (by kernel_rfl) (by kernel_rfl) (by kernel_rfl) (fun _ _ _ h => h) rfl ?_ hHeld ?_
                          rotate_left
                          · intro w hSw
                            try dsimp only at hSw
                            go_simp
                            all_goals with_reducible rfl
                          try simp only [Act.put, List.setIfInBounds_toArray, List.set_cons_zero, List.set_cons_succ]
                          refine wpAnyH_done (by kernel_rfl) ?_ _
                          go_wp2_with fail
                          go_roundw
                          case rel => exact ⟨j + 1, by omega, by go_num, by rw [NX.out]; rfl, hHeld.2.2.2.2.2.1, hHeld.2.2.2.2.2.2.1, hHeld.2.2.2.2.2.2.2⟩
                          case measure => simp [intOf]; omega
                        | false =>
                          cases u with
                          | false =>
                            clear hu0
                            refine wp_region_allH (fun wx => wx.cell? ⟨w.heap.size + 1 + 1 + 1 + 1, xl, none⟩ = some (.bool false) ∧ wx.cell? ⟨w.heap.size + 1 + 1 + 1, xl * 2, none⟩ = some (.int .i64 (ql xl).n) ∧ wx.cell? ⟨w.heap.size + 1 + 1 + 1, xl * 2 + 1, none⟩ = some (.int .i64 (ql xl).d) ∧ wx.cell? ⟨w.heap.size + 1, 0, none⟩ = some (.int .i64 ln) ∧ wx.cell? ⟨w.heap.size + 1, 1, none⟩ = some (.int .i64 ld) ∧ LvAt w wx n ql us fnd ⟨ln, ld⟩ ∧ Blk wx kb 57 [.int .i64 rate.n, .int .i64 rate.d, v] ∧ wx.ownsRow (kb + 1) 3 1 v kr (rowH fz (hereB fls ql us ⟨ln, ld⟩) p)) 17 (by kernel_rfl) rfl ?_ (fun hHeld => ?_)
                            · (exact ⟨y1, y2, y3, le0, le1, TD.out⟩)
                            refine wpAnyH_takeG (i := 0) (v := ?_) rfl (by kernel_rfl) (by kernel_rfl) (by kernel_rfl) (fun _ _ _ h => h) rfl ?_ hHeld ?_
                            rotate_left
                            · intro w hSw
                              try dsimp only at hSw
                              go_simp
                              all_goals with_reducible rfl
                            try simp only [Act.put, List.setIfInBounds_toArray, List.set_cons_zero, List.set_cons_succ]
                            refine wpAnyH_takeG (i := 1) (v := ?_) rfl (by kernel_rfl) (by kernel_rfl) (by kernel_rfl) (fun _ _ _ h => h) rfl ?_ hHeld ?_
                            rotate_left
                            · intro w hSw
                              try dsimp only at hSw
                              go_simp
                              all_goals with_reducible rfl
                            try simp only [Act.put, List.setIfInBounds_toArray, List.set_cons_zero, List.set_cons_succ]
                            refine wpAnyH_takeG (i := 2) (v := ?_) rfl (by kernel_rfl) (by kernel_rfl) (by kernel_rfl) (fun _ _ _ h => h) rfl ?_ hHeld ?_
                            rotate_left
                            · intro w hSw
                              try dsimp only at hSw
                              go_simp
                              all_goals with_reducible rfl
                            try simp only [Act.put, List.setIfInBounds_toArray, List.set_cons_zero, List.set_cons_succ]
                            refine wpAnyH_takeG (i := 3) (v := ?_) rfl (by kernel_rfl) (by kernel_rfl) (by kernel_rfl) (fun _ _ _ h => h) rfl ?_ hHeld ?_
                            rotate_left
                            · intro w hSw
                              try dsimp only at hSw
                              go_simp
                              all_goals with_reducible rfl
                            try simp only [Act.put, List.setIfInBounds_toArray, List.set_cons_zero, List.set_cons_succ]
                            refine wpAnyH_takeG (i := 4) (v := ?_) rfl (by kernel_rfl) (by kernel_rfl) (by kernel_rfl) (fun _ _ _ h => h) rfl ?_ hHeld ?_
                            rotate_left
                            · intro w hSw
                              try dsimp only at hSw
                              go_simp
                              all_goals with_reducible rfl
                            try simp only [Act.put, List.setIfInBounds_toArray, List.set_cons_zero, List.set_cons_succ]
                            refine wpAnyH_takeG (i := 5) (v := ?_) rfl (by kernel_rfl) (by kernel_rfl) (by kernel_rfl) (fun _ _ _ h => h) rfl ?_ hHeld ?_
                            rotate_left
                            · intro w hSw
                              try dsimp only at hSw
                              go_simp
                              all_goals with_reducible rfl
                            try simp only [Act.put, List.setIfInBounds_toArray, List.set_cons_zero, List.set_cons_succ]
                            refine wpAnyH_takeG (i := 6) (v := ?_) rfl (by kernel_rfl) (by kernel_rfl) (by kernel_rfl) (fun _ _ _ h => h) rfl ?_ hHeld ?_
                            rotate_left
                            · intro w hSw
                              try dsimp only at hSw
                              go_simp
                              all_goals with_reducible rfl
                            try simp only [Act.put, List.setIfInBounds_toArray, List.set_cons_zero, List.set_cons_succ]
                            refine wpAnyH_skipL (i := 7) rfl (by kernel_rfl) (by kernel_rfl) (by kernel_rfl) (fun _ _ _ h => h) rfl hHeld ?_
                            try simp only [Act.put, List.setIfInBounds_toArray, List.set_cons_zero, List.set_cons_succ]
                            refine wpAnyH_skipL (i := 8) rfl (by kernel_rfl) (by kernel_rfl) (by kernel_rfl) (fun _ _ _ h => h) rfl hHeld ?_
                            try simp only [Act.put, List.setIfInBounds_toArray, List.set_cons_zero, List.set_cons_succ]
                            refine wpAnyH_skipL (i := 9) rfl (by kernel_rfl) (by kernel_rfl) (by kernel_rfl) (fun _ _ _ h => h) rfl hHeld ?_
                            try simp only [Act.put, List.setIfInBounds_toArray, List.set_cons_zero, List.set_cons_succ]
                            refine wpAnyH_skipL (i := 10) rfl (by kernel_rfl) (by kernel_rfl) (by kernel_rfl) (fun _ _ _ h => h) rfl hHeld ?_
                            try simp only [Act.put, List.setIfInBounds_toArray, List.set_cons_zero, List.set_cons_succ]
                            refine wpAnyH_skipL (i := 11) rfl (by kernel_rfl) (by kernel_rfl) (by kernel_rfl) (fun _ _ _ h => h) rfl hHeld ?_
                            try simp only [Act.put, List.setIfInBounds_toArray, List.set_cons_zero, List.set_cons_succ]
                            refine wpAnyH_skipL (i := 12) rfl (by kernel_rfl) (by kernel_rfl) (by kernel_rfl) (fun _ _ _ h => h) rfl hHeld ?_
                            try simp only [Act.put, List.setIfInBounds_toArray, List.set_cons_zero, List.set_cons_succ]
                            refine wpAnyH_skipL (i := 13) rfl (by kernel_rfl) (by kernel_rfl) (by kernel_rfl) (fun _ _ _ h => h) rfl hHeld ?_
                            try simp only [Act.put, List.setIfInBounds_toArray, List.set_cons_zero, List.set_cons_succ]
                            refine wpAnyH_takeG (i := 14) (v := ?_) rfl (by kernel_rfl) (by kernel_rfl) (by kernel_rfl) (fun _ _ _ h => h) rfl ?_ hHeld ?_
                            rotate_left
                            · intro w hSw
                              try dsimp only at hSw
                              go_simp
                              all_goals with_reducible rfl
                            try simp only [Act.put, List.setIfInBounds_toArray, List.set_cons_zero, List.set_cons_succ]
                            refine wpAnyH_takeG (i := 15) (v := ?_) rfl (by kernel_rfl) (by kernel_rfl) (by kernel_rfl) (fun _ _ _ h => h) rfl ?_ hHeld ?_
                            rotate_left
                            · intro w hSw
                              try dsimp only at hSw
                              go_simp
                              all_goals with_reducible rfl
                            try simp only [Act.put, List.setIfInBounds_toArray, List.set_cons_zero, List.set_cons_succ]
                            refine wpAnyH_takeG (i := 16) (v := ?_) rfl (by kernel_rfl) (by kernel_rfl) (by kernel_rfl) (fun _ _ _ h => h) rfl ?_ hHeld ?_
                            rotate_left
                            · intro w hSw
                              try dsimp only at hSw
                              go_simp
                              all_goals with_reducible rfl
                            try simp only [Act.put, List.setIfInBounds_toArray, List.set_cons_zero, List.set_cons_succ]
                            refine wpAnyH_done (by kernel_rfl) ?_ _
                            go_wp2_with fail
                            go_roundw
                            case rel => exact ⟨j + 1, by omega, by go_num, by rw [NX.out]; unfold hereL; rw [Int.toNat_natCast, hu.out]; rfl, hHeld.2.2.2.2.2.1, hHeld.2.2.2.2.2.2.1, hHeld.2.2.2.2.2.2.2⟩
                            case measure => simp [intOf]; omega
                          | true =>
                            obtain ⟨hu1, hu2⟩ := hu0
                            have hop : 0 < opF N fz xl := by
                              have h5 := hu1.symm.trans hu.out
                              simp only [Bool.and_eq_true, decide_eq_true_eq] at h5
                              exact h5.2
                            have hfnd : fnd = true := by
                              cases fnd with
                              | true => rfl
                              | false => exact absurd (.inl ⟨xl, hxn, hop, rfl⟩) (hS.out.no rfl (q xl))
                            have hokq : (ql xl).ok = true := by
                              have h1 := hu2 hu.out
                              obtain ⟨h5, h6, h7⟩ := HQ.out xl (by rw [hL]; exact hxn) hop
                              exact Rp.ok uU_pos (by decide) (by have : uU = 1244160 := rfl; omega) h1.rp
                            have CM := fun w => cmp_any (ql xl) ⟨ln, ld⟩ w hokq (LOK.out hfnd)
                            have HE := Lib.hid (show hereL ql us ⟨ln, ld⟩ (xl : Int) = ((ql xl).cmp ⟨ln, ld⟩ == 0) by unfold hereL; rw [Int.toNat_natCast, hu.out]; rfl)
                            generalize (ql xl).cmp ⟨ln, ld⟩ = cm at *
                            unfold rV at CM
                            dsimp only at CM
                            replace CM := Lib.hid CM
                            clear hu1 hu2 hop hfnd hokq hu
                            refine wp_region_allH (fun wx => wx.cell? ⟨w.heap.size + 1 + 1 + 1 + 1, xl, none⟩ = some (.bool true) ∧ wx.cell? ⟨w.heap.size + 1 + 1 + 1, xl * 2, none⟩ = some (.int .i64 (ql xl).n) ∧ wx.cell? ⟨w.heap.size + 1 + 1 + 1, xl * 2 + 1, none⟩ = some (.int .i64 (ql xl).d) ∧ wx.cell? ⟨w.heap.size + 1, 0, none⟩ = some (.int .i64 ln) ∧ wx.cell? ⟨w.heap.size + 1, 1, none⟩ = some (.int .i64 ld) ∧ LvAt w wx n ql us fnd ⟨ln, ld⟩ ∧ Blk wx kb 57 [.int .i64 rate.n, .int .i64 rate.d, v] ∧ wx.ownsRow (kb + 1) 3 1 v kr (rowH fz (hereB fls ql us ⟨ln, ld⟩) p)) 17 (by kernel_rfl) rfl ?_ (fun hHeld => ?_)
                            · (exact ⟨y1, y2, y3, le0, le1, TD.out⟩)
                            refine wpAnyH_takeG (i := 0) (v := ?_) rfl (by kernel_rfl) (by kernel_rfl) (by kernel_rfl) (fun _ _ _ h => h) rfl ?_ hHeld ?_
                            rotate_left
                            · intro w hSw
                              try dsimp only at hSw
                              go_simp
                              all_goals with_reducible rfl
                            try simp only [Act.put, List.setIfInBounds_toArray, List.set_cons_zero, List.set_cons_succ]
                            refine wpAnyH_takeG (i := 1) (v := ?_) rfl (by kernel_rfl) (by kernel_rfl) (by kernel_rfl) (fun _ _ _ h => h) rfl ?_ hHeld ?_
                            rotate_left
                            · intro w hSw
                              try dsimp only at hSw
                              go_simp
                              all_goals with_reducible rfl
                            try simp only [Act.put, List.setIfInBounds_toArray, List.set_cons_zero, List.set_cons_succ]
                            refine wpAnyH_takeG (i := 2) (v := ?_) rfl (by kernel_rfl) (by kernel_rfl) (by kernel_rfl) (fun _ _ _ h => h) rfl ?_ hHeld ?_
                            rotate_left
                            · intro w hSw
                              try dsimp only at hSw
                              go_simp
                              all_goals with_reducible rfl
                            try simp only [Act.put, List.setIfInBounds_toArray, List.set_cons_zero, List.set_cons_succ]
                            refine wpAnyH_takeG (i := 3) (v := ?_) rfl (by kernel_rfl) (by kernel_rfl) (by kernel_rfl) (fun _ _ _ h => h) rfl ?_ hHeld ?_
                            rotate_left
                            · intro w hSw
                              try dsimp only at hSw
                              go_simp
                              all_goals with_reducible rfl
                            try simp only [Act.put, List.setIfInBounds_toArray, List.set_cons_zero, List.set_cons_succ]
                            refine wpAnyH_takeG (i := 4) (v := ?_) rfl (by kernel_rfl) (by kernel_rfl) (by kernel_rfl) (fun _ _ _ h => h) rfl ?_ hHeld ?_
                            rotate_left
                            · intro w hSw
                              try dsimp only at hSw
                              go_simp
                              all_goals with_reducible rfl
                            try simp only [Act.put, List.setIfInBounds_toArray, List.set_cons_zero, List.set_cons_succ]
                            refine wpAnyH_takeG (i := 5) (v := ?_) rfl (by kernel_rfl) (by kernel_rfl) (by kernel_rfl) (fun _ _ _ h => h) rfl ?_ hHeld ?_
                            rotate_left
                            · intro w hSw
                              try dsimp only at hSw
                              go_simp
                              all_goals with_reducible rfl
                            try simp only [Act.put, List.setIfInBounds_toArray, List.set_cons_zero, List.set_cons_succ]
                            refine wpAnyH_takeG (i := 6) (v := ?_) rfl (by kernel_rfl) (by kernel_rfl) (by kernel_rfl) (fun _ _ _ h => h) rfl ?_ hHeld ?_
                            rotate_left
                            · intro w hSw
                              try dsimp only at hSw
                              go_simp
                              all_goals with_reducible rfl
                            try simp only [Act.put, List.setIfInBounds_toArray, List.set_cons_zero, List.set_cons_succ]
                            refine wpAnyH_takeG (i := 7) (v := ?_) rfl (by kernel_rfl) (by kernel_rfl) (by kernel_rfl) (fun _ _ _ h => h) rfl ?_ hHeld ?_
                            rotate_left
                            · intro w hSw
                              try dsimp only at hSw
                              go_simp
                              all_goals with_reducible rfl
                            try simp only [Act.put, List.setIfInBounds_toArray, List.set_cons_zero, List.set_cons_succ]
                            refine wpAnyH_takeG (i := 8) (v := ?_) rfl (by kernel_rfl) (by kernel_rfl) (by kernel_rfl) (fun _ _ _ h => h) rfl ?_ hHeld ?_
                            rotate_left
                            · intro w hSw
                              try dsimp only at hSw
                              go_simp
                              all_goals with_reducible rfl
                            try simp only [Act.put, List.setIfInBounds_toArray, List.set_cons_zero, List.set_cons_succ]
                            refine wpAnyH_takeG (i := 9) (v := ?_) rfl (by kernel_rfl) (by kernel_rfl) (by kernel_rfl) (fun _ _ _ h => h) rfl ?_ hHeld ?_
                            rotate_left
                            · intro w hSw
                              try dsimp only at hSw
                              go_simp
                              all_goals with_reducible rfl
                            try simp only [Act.put, List.setIfInBounds_toArray, List.set_cons_zero, List.set_cons_succ]
                            refine wpAnyH_takeG (i := 10) (v := ?_) rfl (by kernel_rfl) (by kernel_rfl) (by kernel_rfl) (fun _ _ _ h => h) rfl ?_ hHeld ?_
                            rotate_left
                            · intro w hSw
                              try dsimp only at hSw
                              go_simp
                              all_goals with_reducible rfl
                            try simp only [Act.put, List.setIfInBounds_toArray, List.set_cons_zero, List.set_cons_succ]
                            refine wpAnyH_takeG (i := 11) (v := ?_) rfl (by kernel_rfl) (by kernel_rfl) (by kernel_rfl) (fun _ _ _ h => h) rfl ?_ hHeld ?_
                            rotate_left
                            · intro w hSw
                              try dsimp only at hSw
                              go_simp
                              all_goals with_reducible rfl
                            try simp only [Act.put, List.setIfInBounds_toArray, List.set_cons_zero, List.set_cons_succ]
                            refine wpAnyH_step (i := 12) (by kernel_rfl) rfl (fun KK hK => ?_)
                            ((go_simp; go_at_call 32; (with_reducible refine (CM.out _).mono ?_); rintro e w4 ⟨rfl, hb⟩))
                            refine hK.out _ _ ?_ (fun hHeld => ?_)
                            · (exact r33_below hHeld hb)
                            clear hK KK
                            try simp only [Act.put, List.setIfInBounds_toArray, List.set_cons_zero, List.set_cons_succ]
                            refine wpAnyH_takeG (i := 13) (v := ?_) rfl (by kernel_rfl) (by kernel_rfl) (by kernel_rfl) (fun _ _ _ h => h) rfl ?_ hHeld ?_
                            rotate_left
                            · intro w hSw
                              try dsimp only at hSw
                              go_simp
                              all_goals with_reducible rfl
                            try simp only [Act.put, List.setIfInBounds_toArray, List.set_cons_zero, List.set_cons_succ]
                            refine wpAnyH_takeG (i := 14) (v := ?_) rfl (by kernel_rfl) (by kernel_rfl) (by kernel_rfl) (fun _ _ _ h => h) rfl ?_ hHeld ?_
                            rotate_left
                            · intro w hSw
                              try dsimp only at hSw
                              go_simp
                              all_goals with_reducible rfl
                            try simp only [Act.put, List.setIfInBounds_toArray, List.set_cons_zero, List.set_cons_succ]
                            refine wpAnyH_takeG (i := 15) (v := ?_) rfl (by kernel_rfl) (by kernel_rfl) (by kernel_rfl) (fun _ _ _ h => h) rfl ?_ hHeld ?_
                            rotate_left
                            · intro w hSw
                              try dsimp only at hSw
                              go_simp
                              all_goals with_reducible rfl
                            try simp only [Act.put, List.setIfInBounds_toArray, List.set_cons_zero, List.set_cons_succ]
                            refine wpAnyH_takeG (i := 16) (v := ?_) rfl (by kernel_rfl) (by kernel_rfl) (by kernel_rfl) (fun _ _ _ h => h) rfl ?_ hHeld ?_
                            rotate_left
                            · intro w hSw
                              try dsimp only at hSw
                              go_simp
                              all_goals with_reducible rfl
                            try simp only [Act.put, List.setIfInBounds_toArray, List.set_cons_zero, List.set_cons_succ]
                            refine wpAnyH_done (by kernel_rfl) ?_ _
                            go_wp2_with fail
                            go_roundw
                            case rel => exact ⟨j + 1, by omega, by go_num, by rw [NX.out, HE.out]; rfl, hHeld.2.2.2.2.2.1, hHeld.2.2.2.2.2.2.1, hHeld.2.2.2.2.2.2.2⟩
                            case measure => simp [intOf]; omega
                      --DEV)
                      · have hjL : j = lk.length := by omega
                        have hhv2 := hhv.trans (congrArg Value.bool (show (h0 || (lk.take j).any (hereL ql us ⟨ln, ld⟩)) = hereB fls ql us ⟨ln, ld⟩ p by rw [HB.out, hjL, List.take_length]))
                        clear hhv
                        obtain ⟨hb, ehb⟩ : ∃ hb, hereB fls ql us ⟨ln, ld⟩ p = hb := ⟨_, rfl⟩
                        rw [ehb] at hhv2
                        subst hhv2
                        subst hjL
                        replace ehb := Lib.hid ehb
                        cases hb with
                        | false =>
                          go_wp2_with fail
                          go_roundw
                          case rel => exact ⟨p + 1, v, kr, by omega, by go_num, T, B, Lib.hid (by rw [rowH_skip (by rw [HZ.out, ehb.out]; rfl)]; exact O.out), hkb⟩
                          case measure => simp [intOf]; omega
                        | true =>
                          obtain ⟨va, vc, rfl, _⟩ := own_shape O.out
                          obtain ⟨i0, hi, hz0, hz1, hz2⟩ := info_parts Try.infoInt
                          have HI := Lib.hid hi; have HZ0 := Lib.hid hz0; have HZ1 := Lib.hid hz1; have HZ2 := Lib.hid hz2
                          clear hi hz0 hz1 hz2
                          have b2 := B.out.cell (i := 2) rfl
                          have bz := B.out.lt
                          have OA := Lib.hid (own_alloc O.out (.cells #[.int .i64 p] 3))
                          have OL := Lib.hid (fun g hg => (own_lt O.out (g := g) hg).2)
                          have hkr : kr ≤ m := row_len O.out hp
                          clear le0 le1
                          go_wp2_with (at_builtin; refine wpList_append_sl rfl _ _ 33 rfl (kb + 1) 3 i0 _ 8 Try.underlying33 HI.out HZ0.out HZ1.out HZ2.out rfl (.slice va kr vc) kr (rowH fz (hereB fls ql us ⟨ln, ld⟩) p) rfl OA.out (Value.int .i64) (fun _ => rfl) (some ⟨wr.heap.size, 0, none⟩) 1 [(p : Int)] rfl (Blk.sl (xs := [(p : Int)]) (Blk.new wr 3 [.int .i64 p])) ?c1 ?c2 ?c3 ?_)
                          case c1 => unfold maxLen; simp; omega
                          case c2 => simp; omega
                          case c3 => simp; omega
                          intro v' w2 hown hgr hat
                          obtain ⟨va', vc', rfl, _⟩ := own_shape hown
                          have U2 := Lib.hid (((Upd.refl (fun k => kb + 1 ≤ k) wr).alloc (.cells #[.int .i64 p] 3)).trans ((Upd.of_grownV hgr).mono (fun k _ hk => OL.out k hk)))
                          have B2 := Lib.hid (B.out.upd U2.out (by omega))
                          have T2 := Lib.hid (T.out.updL U2.out (fun k hk => by omega))
                          have O2 := Lib.hid hown
                          have b2' := B2.out.cell (i := 2) rfl
                          have fb2 := B2.out.free
                          have bz2 := B2.out.lt
                          clear hown hgr hat OA b2
                          go_wp2_with fail
                          go_roundw
                          case rel => exact ⟨p + 1, _, kr + 1, by omega, by go_num, T2.out.updL ((Upd.refl (fun k => k = kb) w2).setCell _ _ (fun _ => rfl)) (fun k hk => by omega), B2.out.set 2 _, Lib.hid (by rw [rowH_take (by rw [HZ.out, ehb.out]; rfl)]; exact own_upd O2.out ((Upd.refl (fun k => k = kb) w2).setCell _ _ (fun _ => rfl)) (fun g hg e => by have := (own_lt O2.out hg).2; omega)), hkb⟩
                          case measure => simp [intOf]; omega
              · obtain rfl : m = p := by omega
                obtain ⟨va, vc, rfl, _⟩ := own_shape O.out
                have e0 := B.out.cell (i := 0) rfl
                have e1 := B.out.cell (i := 1) rfl
                have e2 := B.out.cell (i := 2) rfl
                have bz := B.out.lt
                have tf := T.out.t.free
                have t0 := T.out.t.cell (i := 0) rfl
                have t1 := T.out.t.cell (i := 1) rfl
                have t2 := T.out.t.cell (i := 2) rfl
                have UB := T.out.u
                have UW := Lib.hid (fun g hg => (own_lt O.out (g := g) hg).2)
                have y9 : w.heap.size < wr.heap.size := by omega
                have HFIN : Hid (∀ e w', e = Ending.returned (.tuple #[.agg #[.int .i64 rate.n, .int .i64 rate.d, .slice va kr vc], .int .i64 0]) → Upd (fun k => k = w.heap.size) wr w' → LvPost w N fls fz q n m e w') := fun e w' he hu =>
                  ⟨ql, us, fnd, ⟨ln, ld⟩, k, rate, va, kr, vc, he, fun l hl => ⟨by rw [(hus.out l hl).1, decide_eq_true hl, Bool.true_and], (hus.out l hl).2⟩, hS.out, (by first | (rw [hrt, if_pos hz.out]) | (rw [hrt, if_neg hz.out])),
                    own_rebase (own_upd O.out hu (fun g hg e => by have := UW.out g hg; omega)) (by omega), Upd.below T.out.u hu (by omega) (fun i hi => by omega)⟩
                clear F hus hS hz
                go_wp2_with fail
                have HF2 := fun w' hu => HFIN.out _ w' rfl hu
                rw [hrt] at HF2
                first
                  | exact bodyPost_ret (v := .tuple #[.agg #[.int .i64 0, .int .i64 1, .slice va kr vc], .int .i64 0]) (by simp [results, Try.results38, go_sem, t0, t1, t2, y9]; done) rfl (HF2 _ ((((Upd.refl (fun k => k = w.heap.size) wr).setCell _ _ (fun _ => rfl)).setCell _ _ (fun _ => rfl)).setCell _ _ (fun _ => rfl)))
                  | exact bodyPost_ret (v := .tuple #[.agg #[.int .i64 ln, .int .i64 ld, .slice va kr vc], .int .i64 0]) (by simp [results, Try.results38, go_sem, t0, t1, t2, y9]; done) rfl (HF2 _ ((((Upd.refl (fun k => k = w.heap.size) wr).setCell _ _ (fun _ => rfl)).setCell _ _ (fun _ => rfl)).setCell _ _ (fun _ => rfl)))
end Go.Proofs.Ytbdaehcngmhhcaa
