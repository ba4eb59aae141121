/-
  The walk of the law RingApart.
-/
import Derived.Test.YtdfncgfcggpgdaaLawApart
import Derived.Test.YtdfncgfcggpgdaaSlices
namespace Go.Proofs.Ytdfncgfcggpgdaa
open Go.RowKit
set_option linter.unusedVariables false

theorem new3 (w : World) : Calls Try.prog 33 #[.slice (some ⟨w.heap.size, 0, none⟩) 3 3] (w.alloc (.cells #[.int .i64 3, .int .i64 2, .int .i64 5] 3)) fun e w' =>
    ∃ rv rs, e = .returned (.tuple #[.pointer (some ⟨w.heap.size + 1, 0, none⟩), .int .i64 0]) ∧ ShAt w' (w.heap.size + 1) (w.heap.size + 1) rv rs ∧ qsOf rs = [(3, []), (2, []), (5, [])] ∧ Below w.heap.size w w' := by
  have hb : Blk (w.alloc (.cells #[.int .i64 3, .int .i64 2, .int .i64 5] 3)) w.heap.size 3 (([3, 2, 5] : List Int).map (Value.int .i64)) := Blk.new w 3 _
  refine (newshelf_ok (w.alloc (.cells #[.int .i64 3, .int .i64 2, .int .i64 5] 3)) (some ⟨w.heap.size, 0, none⟩) 3 [3, 2, 5] hb.sl (by decide) (by decide) (by decide)).mono ?_
  rintro e w' ⟨rfl, ⟨rv, rs, h, hq⟩, hbl⟩
  simp only [World.size_alloc] at h hbl
  exact ⟨rv, rs, by simp, h, hq, ((Below.refl _ w).alloc (Nat.le_refl _) _).trans (hbl.mono (by omega))⟩

def ApRel (W : World) (ba sa bb sb c len : Nat) (rva rvb : Value) (i : Value) (w : World) : Prop :=
  ∃ k : Nat, k ≤ len ∧ i = .int .i64 k ∧ ∃ rsa rsb, TwoAt W w ba sa bb sb c rva rsa rvb rsb

theorem doRes_same {kind : Int} {p q : RSt} (h1 : p.room = q.room) (h2 : p.xs = q.xs) : doRes kind p.room p.xs = doRes kind q.room q.xs := by rw [h1, h2]

set_option maxHeartbeats 2000000 in
set_option maxRecDepth 100000 in
theorem ringApart_walk (W : World) (a0 : Option Addr) (c0 : Nat) (l : List I3) (s0 : Sl3 W a0 l) (g0 : ∀ x ∈ l, IntOk .i64 (I3.a x) ∧ IntOk .i64 x.b ∧ IntOk .i64 x.c) (m0 : l.length ≤ maxLen)
    (cl : Int) (wc : (Lit.int .u8 cl).wf = true) :
    Calls Try.prog 7 #[.slice a0 l.length c0, .int .u8 cl] W fun e W' => e = .returned (.bool true) ∧ Below W.heap.size W W' := by
  have HAW := Lib.hid awake_ok
  have S0 := Lib.hid s0
  have hcl : 0 ≤ cl ∧ cl ≤ 255 := by simpa [Lit.wf, IntKind.min, IntKind.max, IntKind.signed, IntKind.bits] using wc
  obtain ⟨hc0, hc1⟩ := hcl
  clear s0 g0 m0 wc
  have N3 := Lib.hid new3
  go_enter Try.func7, Try.ntmps7
  go_wp2_with fail
  refine (HAW.out W).mono ?_
  rintro e w1 ⟨rfl, hb⟩
  have B1 := Lib.hid hb; clear hb
  by_cases hbig : (300 : Int) < l.length
  · go_wp2_with fail
    refine (HAW.out w1).mono ?_
    rintro e w2 ⟨rfl, hb⟩
    have B2 := Lib.hid (B1.out.trans (hb.mono B1.out.size)); clear hb
    go_wp2_with fail
    go_ret
    exact ⟨rfl, B2.out⟩
  · have hl : l.length ≤ 300 := by omega
    obtain ⟨c, hc⟩ : ∃ c : Nat, cl % 3 = c := ⟨(cl % 3).toNat, by omega⟩
    have hc3 : c < 3 := by omega
    go_wp2_with fail
    refine (N3.out w1).mono ?_
    rintro e w2 ⟨rva, rsa, rfl, hA, hqa, hb⟩
    have A2 := Lib.hid hA; have QA := Lib.hid hqa; have B2 := Lib.hid (B1.out.trans (hb.mono B1.out.size))
    clear hA hqa hb
    go_wp2_with fail
    refine (N3.out w2).mono ?_
    rintro e w3 ⟨rvb, rsb, rfl, hB, hqb, hb⟩
    have TW : Hid (TwoAt W w3 (w1.heap.size + 1) (w1.heap.size + 1) (w2.heap.size + 1) (w2.heap.size + 1) c rva rsa rvb rsb) := by
      have hla : rsa.length = 3 := by have := congrArg List.length QA.out; simpa [qsOf] using this
      have hlb : rsb.length = 3 := by have := congrArg List.length hqb; simpa [qsOf] using this
      have hkey : ∀ (rs : List RSt) (i : Nat) (r : RSt), qsOf rs = [(3, []), (2, []), (5, [])] → rs[i]? = some r → ([(3, []), (2, []), (5, [])] : List (Nat × List Int))[i]? = some (r.room, r.xs) := by
        intro rs i r h hr
        rw [← h]
        simp [qsOf, hr]
      refine ⟨A2.out.below hb, hB, hla, hlb, ?_, ?_, ?_, by have := B1.out.size; omega, by have := B2.out.size; omega, B2.out.trans (hb.mono B2.out.size)⟩
      · obtain ⟨p, hp⟩ : ∃ p, rsa[c]? = some p := ⟨rsa[c]'(by omega), by simp⟩
        obtain ⟨q, hq⟩ : ∃ q, rsb[c]? = some q := ⟨rsb[c]'(by omega), by simp⟩
        have e1 := hkey rsa c p QA.out hp
        have e2 := hkey rsb c q hqb hq
        rw [e1] at e2
        have e3 := Option.some.inj e2
        exact ⟨p, q, hp, hq, congrArg Prod.fst e3, congrArg Prod.snd e3⟩
      · intro i q hq hi
        have e2 := hkey rsb i q hqb hq
        have hi3 : i < 3 := by
          rcases Nat.lt_or_ge i 3 with h | h
          · exact h
          · rw [List.getElem?_eq_none (by omega)] at hq; simp at hq
        match i, hi3 with
        | 0, _ | 1, _ | 2, _ => simp at e2; exact e2.2
      · intro k hk hk'
        have h1 := (A2.out.f_lt hk).1
        have h2 := (hB.f_lt hk').2
        omega
    clear hB hqb hb
    generalize hba : w1.heap.size + 1 = ba at *
    generalize hbb : w2.heap.size + 1 = bb at *
    have HBA := Lib.hid hba; have HBB := Lib.hid hbb
    clear hba hbb
    go_wp2_with fail
    try rw [hc]
    clear hc
    go_loopw [50] (fun i wr => ApRel W ba ba bb bb c l.length rva rvb i wr) (fun i _ => l.length - (intOf i).toNat)
    case atStart => exact ⟨0, Nat.zero_le _, rfl, rsa, rsb, TW.out⟩
    case round =>
      obtain ⟨k, hk, rfl, ra, rb, hT⟩ := hrel
      have T := Lib.hid hT; clear hT
      by_cases hlt : k < l.length
      · obtain ⟨x, ex, okx, cx1, cx2, cx3⟩ := (S0.out.below T.out.bel).get (k := k) hlt
        obtain ⟨xa, xb, xc⟩ := x
        have TA : Hid (TwoAt W (wr.alloc (.cells #[.int .i64 xa, .int .i64 xb, .int .i64 xc] 30)) ba ba bb bb c rva ra rvb rb) := T.out.below ((Below.refl _ _).alloc (Nat.le_refl _) _)
        have hsz : wr.heap.size < (wr.alloc (.cells #[.int .i64 xa, .int .i64 xb, .int .i64 xc] 30)).heap.size := by simp
        by_cases hout : xb < 0 ∨ (3 : Int) ≤ xb
        · have D := Lib.hid (do_out _ ba ba rva ra xb xa xc TA.out.ha (by rw [T.out.la]; exact hout) (by rw [T.out.la]; decide))
          have hne : ((xb : Int) != (c : Int)) = true := by rw [bne_iff_ne]; omega
          have hres : ∃ b z, outRes xa = .tuple #[.int .i64 0, .bool b, .int .i64 z] := by unfold outRes; split <;> exact ⟨_, _, rfl⟩
          obtain ⟨bz, z, hz⟩ := hres
          rw [hz] at D
          clear hout hz
          go_wp2_with fail
          refine D.out.mono ?_
          rintro e w4 ⟨rfl, hb⟩
          have T4 := Lib.hid (TA.out.below hb)
          have hcell : w4.cell? ⟨wr.heap.size, 1, none⟩ = some (.int .i64 xb) := by rw [hb.cell (p := ⟨wr.heap.size, 1, none⟩) hsz]; simp
          clear hb
          go_wp2_with fail
          go_roundw
          case rel => exact ⟨k + 1, by omega, by go_num, ra, rb, T4.out⟩
          case measure => simp [intOf]; omega
        · obtain ⟨j, rfl⟩ := Int.eq_ofNat_of_zero_le (show 0 ≤ xb by omega)
          have hj3 : j < 3 := by omega
          obtain ⟨r, hr⟩ : ∃ r, ra[j]? = some r := ⟨ra[j]'(by rw [T.out.la]; exact hj3), by simp⟩
          have HR := Lib.hid hr
          have D := Lib.hid (do_any _ ba ba rva ra j r xa xc TA.out.ha hr (by rw [T.out.la]; decide) (by have := TA.out.ha.hbs; have := TA.out.ha.hs.lt; omega))
          have hres : ∃ y b z, doRes xa r.room r.xs = .tuple #[.int .i64 y, .bool b, .int .i64 z] := by
            unfold doRes
            split
            · exact ⟨_, _, _, rfl⟩
            · split <;> exact ⟨_, _, _, rfl⟩
          obtain ⟨y, b, z, hz⟩ := hres
          have HZ := Lib.hid hz
          rw [hz] at D
          clear hout hz hr
          by_cases hjc : j = c
          · subst hjc
            have hne : ((j : Int) != (j : Int)) = false := by simp
            obtain ⟨p, q, hp, hq, hroom, hxs⟩ := T.out.same
            obtain rfl : p = r := by have := HR.out; rw [hp] at this; exact Option.some.inj this
            have HQ := Lib.hid hq; have HRM := Lib.hid hroom; have HXS := Lib.hid hxs
            clear hp hq hroom hxs
            go_wp2_with fail
            refine D.out.mono ?_
            rintro e w4 ⟨v', rfl, hs, hu, hv⟩
            have S4 := Lib.hid hs; have U4 := Lib.hid hu; have V4 := Lib.hid hv
            have hfl : ¬ p.foot wr.heap.size := fun hf => by have := (T.out.ha.foot_lt HR.out hf).1; omega
            have hc1 : w4.cell? ⟨wr.heap.size, 1, none⟩ = some (.int .i64 j) := by rw [hu.cell (p := ⟨wr.heap.size, 1, none⟩) hsz hfl]; simp
            have hc0 : w4.cell? ⟨wr.heap.size, 0, none⟩ = some (.int .i64 xa) := by rw [hu.cell (p := ⟨wr.heap.size, 0, none⟩) hsz hfl]; simp
            have hc2 : w4.cell? ⟨wr.heap.size, 2, none⟩ = some (.int .i64 xc) := by rw [hu.cell (p := ⟨wr.heap.size, 2, none⟩) hsz hfl]; simp
            have hb4 : ShAt w4 bb bb rvb rb := by
              have hfa : ∀ k, p.foot k → ¬ shF bb rvb rb k := fun k hk => T.out.apart k (.inr (.inr ⟨j, p, HR.out, hk⟩))
              exact TA.out.hb.upd hu (fun hk => hfa _ hk (.inl rfl)) (fun k hg hk => hfa _ hk (.inr (.inl hg))) (fun i q hq k hk hk' => hfa _ hk' (.inr (.inr ⟨i, q, hq, hk⟩)))
            have D2 := Lib.hid (do_any w4 bb bb rvb rb j q xa xc hb4 HQ.out (by rw [T.out.lb]; decide) (by have := hb4.hbs; have := hb4.hs.lt; omega))
            rw [← doRes_same HRM.out HXS.out, HZ.out, ← HRM.out, ← HXS.out] at D2
            have hyy : ((y : Int) != y) = false := by simp
            have hbb : ((b : Bool) != b) = false := by simp
            have hzz : ((z : Int) != z) = false := by simp
            clear hs hu hv hfl hb4 hsz
            go_wp2_with fail
            refine D2.out.mono ?_
            rintro e w5 ⟨v2, rfl, hs, hu, hv⟩
            have T5 := Lib.hid (TA.out.stepAB HR.out HQ.out HRM.out S4.out U4.out V4.out (v2 := v2) hs hu hv)
            clear hs hu hv
            go_wp2_with fail
            go_roundw
            case rel => exact ⟨k + 1, by omega, by go_num, _, _, T5.out⟩
            case measure => simp [intOf]; omega
          · have hne : ((j : Int) != (c : Int)) = true := by rw [bne_iff_ne]; omega
            go_wp2_with fail
            refine D.out.mono ?_
            rintro e w4 ⟨v', rfl, hs, hu, hv⟩
            have hfl : ¬ r.foot wr.heap.size := fun hf => by have := (T.out.ha.foot_lt HR.out hf).1; omega
            have hc1 : w4.cell? ⟨wr.heap.size, 1, none⟩ = some (.int .i64 j) := by rw [hu.cell (p := ⟨wr.heap.size, 1, none⟩) hsz hfl]; simp
            have T4 := Lib.hid (TA.out.stepA HR.out hjc hs hu hv)
            clear hs hu hv hfl hsz
            go_wp2_with fail
            go_roundw
            case rel => exact ⟨k + 1, by omega, by go_num, _, _, T4.out⟩
            case measure => simp [intOf]; omega
      · obtain rfl : k = l.length := by omega
        have LA := Lib.hid (lens_any wr ba ba rva ra T.out.ha (by rw [T.out.la]; decide))
        go_wp2_with fail
        refine LA.out.mono ?_
        rintro e w4 ⟨va, rfl, hva, hb⟩
        have T4 := Lib.hid (T.out.below hb)
        obtain ⟨aa, ca, rfl, hva'⟩ := hva
        have SA := Lib.hid (Rw.sl ⟨aa, ca, rfl, hva'⟩)
        clear hva' hb
        have LB := Lib.hid (lens_any w4 bb bb rvb rb T4.out.hb (by rw [T4.out.lb]; decide))
        go_wp2_with fail
        refine LB.out.mono ?_
        rintro e w5 ⟨vb, rfl, hvb, hb⟩
        have T5 := Lib.hid (T4.out.below hb)
        obtain ⟨ab, cb, rfl, hvb'⟩ := hvb
        have SB := Lib.hid (Rw.sl ⟨ab, cb, rfl, hvb'⟩)
        have SA5 := Lib.hid (SA.out.below hb)
        clear hvb' hb
        have hla : (lensOf ra).length = 3 := by simp [lensOf, T.out.la]
        have hlb : (lensOf rb).length = 3 := by simp [lensOf, T.out.lb]
        obtain ⟨p, q, hp, hq, _, hxs⟩ := T.out.same
        have va : (lensOf ra)[c]? = some (p.xs.length : Int) := by simp [lensOf, hp]
        have vb : (lensOf rb)[c]? = some (p.xs.length : Int) := by simp [lensOf, hq, hxs]
        have vz : ∀ i, i < 3 → i ≠ c → (lensOf rb)[i]? = some 0 := by
          intro i hi hic
          obtain ⟨r, hr⟩ : ∃ r, rb[i]? = some r := ⟨rb[i]'(by rw [T.out.lb]; exact hi), by simp⟩
          have := T.out.oth i r hr hic
          simp [lensOf, hr, this]
        have ca := (SA5.out c _ va)
        have cb := (SB.out c _ vb)
        obtain ⟨oka, ca⟩ := ca
        obtain ⟨okb, cb⟩ := cb
        have z1 := fun i h1 h2 => (SB.out i 0 (vz i h1 h2)).2
        have T5B := Lib.hid T5.out.bel
        rw [hla, hlb]
        clear va vb vz hp hq hxs hla hlb
        generalize (p.xs.length : Int) = L at *
        have hLL : ((L : Int) == L) = true := by simp
        have hc012 : c = 0 ∨ c = 1 ∨ c = 2 := by omega
        rcases hc012 with rfl | rfl | rfl
        · have y1 := z1 1 (by omega) (by omega)
          have y2 := z1 2 (by omega) (by omega)
          clear z1
          go_wp2_with fail
          go_quiet (fail)
          go_wp2_with fail
          go_ret
          exact ⟨rfl, T5B.out.trans ((Qt.drewN (Qt.refl _) _).below _)⟩
        · have y1 := z1 2 (by omega) (by omega)
          have y2 := z1 0 (by omega) (by omega)
          clear z1
          go_wp2_with fail
          go_quiet (fail)
          go_wp2_with fail
          go_ret
          exact ⟨rfl, T5B.out.trans ((Qt.drewN (Qt.refl _) _).below _)⟩
        · have y1 := z1 0 (by omega) (by omega)
          have y2 := z1 1 (by omega) (by omega)
          clear z1
          go_wp2_with fail
          go_quiet (fail)
          go_wp2_with fail
          go_ret
          exact ⟨rfl, T5B.out.trans ((Qt.drewN (Qt.refl _) _).below _)⟩
end Go.Proofs.Ytdfncgfcggpgdaa
