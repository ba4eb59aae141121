/-
  SwitchboxMaximal: the closure that looks for a frame that could have been sent.
-/
import Derived.Test.YtkooihniieepcaaOnce
namespace Go.Proofs.Ytkooihniieepcaa
open Go.RowKit
set_option linter.unusedVariables false

/-- Behind k moves: what was sent is marked. -/
def MxIn (w0 : World) (P bi bo : Nat) (mv : List Mv) (k : Nat) (w : World) : Prop :=
  ∃ fi fo, MkB w0 P bi bo fi fo w ∧ ∀ (j : Nat) (m : Mv), j < k → mv[j]? = some m → 0 ≤ m.o → fi m.p.toNat = true ∧ fo m.o.toNat = true
def MxRel (w0 : World) (P bi bo : Nat) (mv : List Mv) (n : Nat) (iv : Value) (w : World) : Prop := ∃ k ≤ n, iv = .int .i64 k ∧ MxIn w0 P bi bo mv k w
def MyRel (w0 : World) (P bi bo : Nat) (fi fo : Nat → Bool) (n : Nat) (iv : Value) (w : World) : Prop := ∃ k ≤ n, iv = .int .i64 k ∧ MkB w0 P bi bo fi fo w
section
variable {w0 w w' : World} {P bi bo k : Nat} {mv : List Mv} {fi fo : Nat → Bool}
theorem MxIn.skip {m : Mv} (hM : MkB w0 P bi bo fi fo w) (hk : mv[k]? = some m) (h0 : m.o < 0) (h : ∀ (j : Nat) (m : Mv), j < k → mv[j]? = some m → 0 ≤ m.o → fi m.p.toNat = true ∧ fo m.o.toNat = true) : MxIn w0 P bi bo mv (k + 1) w := by
  refine ⟨fi, fo, hM, fun j m' hj hm h1 => ?_⟩
  by_cases e : j = k
  · subst e
    rw [hk] at hm
    cases hm
    omega
  · exact h j m' (by omega) hm h1
theorem MxIn.mark {q o : Nat} {c : Int} (hM : MkB w0 P bi bo (Bar.upd fi q true) (Bar.upd fo o true) w) (hk : mv[k]? = some ⟨q, c, o⟩) (h : ∀ (j : Nat) (m : Mv), j < k → mv[j]? = some m → 0 ≤ m.o → fi m.p.toNat = true ∧ fo m.o.toNat = true) : MxIn w0 P bi bo mv (k + 1) w := by
  refine ⟨_, _, hM, fun j m' hj hm h1 => ?_⟩
  have up : ∀ (g : Nat → Bool) (x y : Nat), g y = true → Bar.upd g x true y = true := fun g x y hg => by
    by_cases e : y = x
    · rw [e, Bar.upd_same]
    · rw [Bar.upd_ne _ _ e]; exact hg
  by_cases e : j = k
  · subst e
    rw [hk] at hm
    cases hm
    refine ⟨?_, ?_⟩
    · show Bar.upd fi q true ((q : Int).toNat) = true
      rw [Int.toNat_natCast, Bar.upd_same]
    · show Bar.upd fo o true ((o : Int).toNat) = true
      rw [Int.toNat_natCast, Bar.upd_same]
  · obtain ⟨g1, g2⟩ := h j m' (by omega) hm h1
    exact ⟨up _ _ _ g1, up _ _ _ g2⟩
end
set_option maxHeartbeats 8000000 in
set_option maxRecDepth 100000 in
theorem maxi1_any (W : World) (base P K B2 n : Nat) (L : Loc) (M : Md) (a : Option Addr) (c0 : Nat) (os : List Int) (ra : Option Addr) (rc : Nat) (kp kr ko : Nat) (mv : List Mv) (ma : Option Addr) (mc : Nat) (frv : Value) (ta : Nat) (tc : Nat) (tb : Nat → Nat) (x : Nat → Nat → Int)
    (hX : BoxAt W base P K L M) (hC : OnCI a c0 P os kp ko W) (hR : Blk W kr 22 [.slice ra K rc]) (ho1 : 1 ≤ os.length) (ho8 : os.length ≤ 8) (hP : P ≤ 8) (hK : K ≤ 8) (hn : mv.length = n) (hn5 : n ≤ 5000)
    (hM : W.ownsRow B2 34 3 (.slice ma n mc) n (flC mvC mv))
    (hT : ∀ o < P, W.cell? ⟨ta, o, none⟩ = some (.slice (some ⟨tb o, 0, none⟩) K K) ∧ ∀ c < K, W.cell? ⟨tb o, c, none⟩ = some (.int .i64 (x o c)))
    (hA : ∀ (j : Nat) m, mv[j]? = some m → ∃ p c, m.p = ((p : Nat) : Int) ∧ m.c = ((c : Nat) : Int) ∧ p < P ∧ c < K ∧ m.o < P)
    (hQ : ∀ p < P, ∀ c < K, ∀ f r, M.q p c = f :: r →
      (noRt P (rtO os) p f = true → ∃ mm ∈ mv, mm.p = (p : Int) ∧ 0 ≤ mm.o) ∧
      (noRt P (rtO os) p f = false → 0 < x (rtO os p f).toNat c → ∃ mm ∈ mv, 0 ≤ mm.o ∧ (mm.p = (p : Int) ∨ mm.o = rtO os p f))) :
    Calls Try.prog 22 #[.pointer (some ⟨L.bb, 0, none⟩), .slice ma n mc, frv, .slice (some ⟨ta, 0, none⟩) P tc, .pointer (some ⟨kp, 0, none⟩), .pointer (some ⟨kr, 0, none⟩), .pointer (some ⟨ko, 0, none⟩)] W fun e w' => e = .returned (.bool true) ∧ Below W.heap.size W w' := by
  have XX := Lib.hid hX; have CC := Lib.hid hC; have RR := Lib.hid hR; have MM := Lib.hid hM; have TT := Lib.hid hT; have AA := Lib.hid hA; have QQ := Lib.hid hQ
  have HN := Lib.hid hn
  have c0p := hC.1.cell (i := 0) rfl
  have lk := hC.1.lt
  clear hX hC hR hM hT hA hQ hn
  have hm1 := fun w : World => mk_false w P (by omega)
  go_enter Try.func22, Try.ntmps22
  go_upto_region 1 with (fail)
  go_cut [12, 13] from 20 to 23 (fun vi vo wx => ∃ bi bo, vi = .slice (some ⟨bi, 0, none⟩) P P ∧ vo = .slice (some ⟨bo, 0, none⟩) P P ∧ MkB W P bi bo (fun _ => false) (fun _ => false) wx)
  case first =>
    have M2 := Lib.hid (mk_two W P)
    generalize hLB : (List.range P).map (bF fun _ => false) = LB at *
    go_region
    all_goals
      (try go_wp2_with fail)
      go_meet
      first
        | exact ⟨_, _, rfl, rfl, M2.out.1⟩
        | exact ⟨_, _, rfl, rfl, M2.out.2⟩
  case rest =>
    obtain ⟨bi, bo, rfl, rfl, hk⟩ := hcut
    have R0 : Hid (MxRel W P bi bo mv n (.int .i64 0) _) := Lib.hid ⟨0, Nat.zero_le _, rfl, _, _, hk, fun j m hj => by omega⟩
    clear hk c0p hm1 lk
    go_wp2_with fail
    go_loopw [26] (fun iv wx => MxRel W P bi bo mv n iv wx) (fun iv _ => n - (intOf iv).toNat)
    case atStart => exact R0.out
    case round =>
      clear R0
      obtain ⟨k, hk, rfl, fi, fo, hmk, hi⟩ := hrel
      have MK := Lib.hid hmk
      have HI := Lib.hid hi
      clear hmk hi
      by_cases hlt : k < n
      · have hki : (k : Int) < (n : Int) := by omega
        obtain ⟨mm, hmm⟩ : ∃ mm, mv[k]? = some mm := ⟨mv[k]'(by rw [HN.out]; exact hlt), by simp [show k < mv.length by rw [HN.out]; exact hlt]⟩
        obtain ⟨q, c, eq, ec, hqP, hcK, hoP⟩ := AA.out k mm hmm
        obtain ⟨mp, mcl, mo⟩ := mm
        obtain rfl : mp = (q : Int) := eq
        obtain rfl : mcl = (c : Int) := ec
        have hoP : mo < (P : Int) := hoP
        have BW : Hid (Below W.heap.size W wr) := Lib.hid MK.out.2.2.2.2.2
        obtain ⟨wq, hwq⟩ : ∃ wq, wq = wr.alloc (.cells #[.int .i64 q, .int .i64 c, .int .i64 mo] 34) := ⟨_, rfl⟩
        obtain ⟨mb, hmb⟩ : ∃ mb, mb = wr.heap.size := ⟨_, rfl⟩
        have MB : Hid (Blk wq mb 34 (mvC ⟨q, c, mo⟩)) := Lib.hid (by rw [hwq, hmb]; exact Blk.new wr _ (mvC ⟨q, c, mo⟩))
        have MKQ : Hid (MkB W P bi bo fi fo wq) := Lib.hid (MK.out.below (by rw [hwq]; exact (Below.refl _ _).alloc (Nat.le_refl _) _))
        have hrow := own_upd MM.out (Upd.of_below (S := fun _ => False) BW.out) (fun _ _ => id)
        obtain ⟨ok1, m0⟩ := ownC_cell mvC_len (by decide) hrow hmm (k := 0) (by decide) rfl
        obtain ⟨_, m1⟩ := ownC_cell mvC_len (by decide) hrow hmm (k := 1) (by decide) rfl
        obtain ⟨_, m2⟩ := ownC_cell mvC_len (by decide) hrow hmm (k := 2) (by decide) rfl
        rw [Nat.add_zero] at m0
        have HMM := Lib.hid hmm
        have NB : Hid (mb ≠ bi ∧ mb ≠ bo) := Lib.hid (by have h1 := MK.out.1.lt; have h2 := MK.out.2.1.lt; omega)
        have hq0 : (0 : Int) ≤ (q : Int) := by omega
        have hqi : (q : Int) < (P : Int) := by omega
        clear hrow hmm MK
        by_cases h0 : 0 ≤ mo
        · obtain ⟨o, rfl⟩ : ∃ o : Nat, mo = (o : Int) := ⟨mo.toNat, by omega⟩
          have hoQ : o < P := by omega
          go_upto_region 6 with (fail)
          have gz0 : wq.cell? ⟨mb, 0, none⟩ = some (.int .i64 q) := Blk.cell MB.out (i := 0) rfl
          have gz2 : wq.cell? ⟨mb, 2, none⟩ = some (.int .i64 o) := Blk.cell MB.out (i := 2) rfl
          rw [← hwq, ← hmb]
          clear hwq hmb m0 m1 m2 ok1
          have fz1 : wq.frozen? ⟨bi, q, none⟩ = false := MKQ.out.1.free q
          have fz2 : wq.frozen? ⟨bo, o, none⟩ = false := MKQ.out.2.1.free o
          have bz1 : wq.cell? ⟨bi, q, none⟩ = some (bF fi q) := MKQ.out.1.cell hqP
          have bz2 : wq.cell? ⟨bo, o, none⟩ = some (bF fo o) := MKQ.out.2.1.cell hoQ
          have hne : bi ≠ bo := MKQ.out.2.2.1
          have FN : Hid (MxIn W P bi bo mv (k + 1) ((wq.drew.setCell ⟨bi, q, none⟩ (.bool true)).setCell ⟨bo, o, none⟩ (.bool true))) := Lib.hid (MxIn.mark (((MKQ.out.below (Qt.refl wq).drew.bel).setI hqP).setO hoQ) HMM.out HI.out)
          have NZ := NB.out
          clear MKQ
          refine wp_region_lastH (fun wx => wx.cell? ⟨mb, 0, none⟩ = some (.int .i64 q) ∧ wx.cell? ⟨mb, 2, none⟩ = some (.int .i64 o)) 9 10 (by kernel_rfl) (by kernel_rfl) rfl rfl ?_ (fun hHeld => ?_)
          · (exact ⟨gz0, gz2⟩)
          simp only [nopFor, List.set_cons_succ, List.set_cons_zero]
          refine wpAnyH_takeL (i := 0) (v := ?_) rfl (by kernel_rfl) (by kernel_rfl) (by kernel_rfl) (fun _ _ _ h => h) rfl ?_ hHeld ?_
          rotate_left
          · intro w hSw
            try dsimp only at hSw
            go_simp
            all_goals with_reducible rfl
          try simp only [Act.put, List.setIfInBounds_toArray, List.set_cons_zero, List.set_cons_succ]
          refine wpAnyH_takeL (i := 1) (v := ?_) rfl (by kernel_rfl) (by kernel_rfl) (by kernel_rfl) (fun _ _ _ h => h) rfl ?_ hHeld ?_
          rotate_left
          · intro w hSw
            try dsimp only at hSw
            go_simp
            all_goals with_reducible rfl
          try simp only [Act.put, List.setIfInBounds_toArray, List.set_cons_zero, List.set_cons_succ]
          refine wpAnyH_takeL (i := 2) (v := ?_) rfl (by kernel_rfl) (by kernel_rfl) (by kernel_rfl) (fun _ _ _ h => h) rfl ?_ hHeld ?_
          rotate_left
          · intro w hSw
            try dsimp only at hSw
            go_simp
            all_goals with_reducible rfl
          try simp only [Act.put, List.setIfInBounds_toArray, List.set_cons_zero, List.set_cons_succ]
          refine wpAnyH_takeL (i := 3) (v := ?_) rfl (by kernel_rfl) (by kernel_rfl) (by kernel_rfl) (fun _ _ _ h => h) rfl ?_ hHeld ?_
          rotate_left
          · intro w hSw
            try dsimp only at hSw
            go_simp
            all_goals with_reducible rfl
          try simp only [Act.put, List.setIfInBounds_toArray, List.set_cons_zero, List.set_cons_succ]
          refine wpAnyH_takeL (i := 4) (v := ?_) rfl (by kernel_rfl) (by kernel_rfl) (by kernel_rfl) (fun _ _ _ h => h) rfl ?_ hHeld ?_
          rotate_left
          · intro w hSw
            try dsimp only at hSw
            go_simp
            all_goals with_reducible rfl
          try simp only [Act.put, List.setIfInBounds_toArray, List.set_cons_zero, List.set_cons_succ]
          refine wpAnyH_takeL (i := 5) (v := ?_) rfl (by kernel_rfl) (by kernel_rfl) (by kernel_rfl) (fun _ _ _ h => h) rfl ?_ hHeld ?_
          rotate_left
          · intro w hSw
            try dsimp only at hSw
            go_simp
            all_goals with_reducible rfl
          try simp only [Act.put, List.setIfInBounds_toArray, List.set_cons_zero, List.set_cons_succ]
          refine wpAnyH_takeL (i := 6) (v := ?_) rfl (by kernel_rfl) (by kernel_rfl) (by kernel_rfl) (fun _ _ _ h => h) rfl ?_ hHeld ?_
          rotate_left
          · intro w hSw
            try dsimp only at hSw
            go_simp
            all_goals with_reducible rfl
          try simp only [Act.put, List.setIfInBounds_toArray, List.set_cons_zero, List.set_cons_succ]
          refine wpAnyH_step (i := 7) (by kernel_rfl) rfl (fun KK hK => ?_)
          (go_simp)
          refine hK.out _ _ ?_ (fun hHeld => ?_)
          · (exact (fun h => ⟨Blk.cell h (i := 0) rfl, Blk.cell h (i := 2) rfl⟩) (Blk.setO (a := ⟨bi, q, none⟩) MB.out (.bool true) NB.out.1))
          clear hK KK
          try simp only [Act.put, List.setIfInBounds_toArray, List.set_cons_zero, List.set_cons_succ]
          refine wpAnyH_takeL (i := 8) (v := ?_) rfl (by kernel_rfl) (by kernel_rfl) (by kernel_rfl) (fun _ _ _ h => h) rfl ?_ hHeld ?_
          rotate_left
          · intro w hSw
            try dsimp only at hSw
            go_simp
            all_goals with_reducible rfl
          try simp only [Act.put, List.setIfInBounds_toArray, List.set_cons_zero, List.set_cons_succ]
          refine wpAnyH_takeL (i := 9) (v := ?_) rfl (by kernel_rfl) (by kernel_rfl) (by kernel_rfl) (fun _ _ _ h => h) rfl ?_ hHeld ?_
          rotate_left
          · intro w hSw
            try dsimp only at hSw
            go_simp
            all_goals with_reducible rfl
          try simp only [Act.put, List.setIfInBounds_toArray, List.set_cons_zero, List.set_cons_succ]
          refine wpAnyH_done (by kernel_rfl) ?_ _
          rw [LastQ_normal]
          clear hHeld
          go_wp2_with fail
          go_roundw
          case rel => exact ⟨k + 1, by omega, by go_num, FN.out⟩
          case measure => simp [intOf]; omega
        · have FN : Hid (MxIn W P bi bo mv (k + 1) (wr.alloc (.cells #[.int .i64 q, .int .i64 c, .int .i64 mo] 34))) := Lib.hid (by rw [← hwq]; exact MxIn.skip MKQ.out HMM.out (by show mo < 0; omega) HI.out)
          clear hwq hmb
          go_wp2_with fail
          go_roundw
          case rel => exact ⟨k + 1, by omega, by go_num, FN.out⟩
          case measure => simp [intOf]; omega
      · obtain rfl : k = n := by omega
        have FIN : Hid (∀ p < P, ∀ c < K, ∀ f r, M.q p c = f :: r → (noRt P (rtO os) p f = true → fi p = true) ∧ (noRt P (rtO os) p f = false → 0 < x (rtO os p f).toNat c → fi p = true ∨ fo (rtO os p f).toNat = true)) := Lib.hid (by
          have at_ : ∀ mm ∈ mv, 0 ≤ mm.o → fi mm.p.toNat = true ∧ fo mm.o.toNat = true := fun mm hmm h0 => by
            obtain ⟨j, hj⟩ := List.mem_iff_getElem?.1 hmm
            exact HI.out j mm (by rw [← HN.out]; exact get_lt hj) hj h0
          intro p hp c hc f r hq
          obtain ⟨q1, q2⟩ := QQ.out p hp c hc f r hq
          refine ⟨fun hn => ?_, fun hn hl => ?_⟩
          · obtain ⟨mm, g1, g2, g3⟩ := q1 hn
            have := (at_ mm g1 g3).1
            rw [g2, Int.toNat_natCast] at this
            exact this
          · obtain ⟨mm, g1, g2, g3⟩ := q2 hn hl
            rcases g3 with g3 | g3
            · have := (at_ mm g1 g2).1
              rw [g3, Int.toNat_natCast] at this
              exact .inl this
            · have := (at_ mm g1 g2).2
              rw [g3] at this
              exact .inr this)
        have Y0 : Hid (MyRel W P bi bo fi fo P (.int .i64 0) wr) := Lib.hid ⟨0, Nat.zero_le _, rfl, MK.out⟩
        have p0 := (CC.out.below MK.out.2.2.2.2.2).1.cell (i := 0) rfl
        clear HI QQ AA MM MK
        go_wp2_with fail
        clear p0
        go_loopw [43] (fun iv wx => MyRel W P bi bo fi fo P iv wx) (fun iv _ => P - (intOf iv).toNat)
        case atStart => exact Y0.out
        case round =>
          clear Y0
          obtain ⟨p, hp, rfl, hmk⟩ := hrel
          have MK := Lib.hid hmk
          clear hmk
          by_cases hlp : p < P
          · have hpi : (p : Int) < (P : Int) := by omega
            have r0 := Blk.cell (Blk.upd RR.out (Upd.of_below (S := fun _ => False) MK.out.2.2.2.2.2) id) (i := 0) rfl
            have Y0 : Hid (MyRel W P bi bo fi fo K (.int .i64 0) wr) := Lib.hid ⟨0, Nat.zero_le _, rfl, MK.out⟩
            clear MK
            go_wp2_with fail
            clear r0
            go_loopw [48] (fun iv wx => MyRel W P bi bo fi fo K iv wx) (fun iv _ => K - (intOf iv).toNat)
            case atStart => exact Y0.out
            case round =>
              clear Y0
              obtain ⟨c, hc, rfl, hmk⟩ := hrel
              have MK := Lib.hid hmk
              clear hmk
              by_cases hlc : c < K
              · have hci : (c : Int) < (K : Int) := by omega
                have X4 := XX.out.below MK.out.2.2.2.2.2
                have QC := Lib.hid (queue_yes p c X4 hlp hlc)
                clear X4
                have hpp : (0 : Int) ≤ (p : Int) := by omega
                cases hq : M.q p c with
                | nil =>
                  rw [hq] at QC
                  clear hq
                  go_wp2_with fail
                  refine QC.out.mono ?_
                  rintro e w5 ⟨v, rfl, ho, hb⟩
                  obtain ⟨va, vc, rfl, _⟩ := own_shape ho
                  have MK5 := Lib.hid (MK.out.below hb)
                  clear ho hb QC MK
                  simp only [List.length_nil]
                  go_wp2_with fail
                  go_roundw
                  case rel => exact ⟨c + 1, by omega, by go_num, MK5.out⟩
                  case measure => simp [intOf]; omega
                | cons f r =>
                  obtain ⟨ql, hql⟩ : ∃ ql, ql = (M.q p c).length := ⟨_, rfl⟩
                  have hql1 : 1 ≤ ql := by rw [hql, hq]; simp
                  have hql2 : ql ≤ 64 := by rw [hql]; exact XX.out.ok.qm p hlp c hlc
                  rw [← hql, hq] at QC
                  have FC := Lib.hid (FIN.out p hlp c hlc f r hq)
                  have qz : ¬ (ql : Int) = 0 := by omega
                  have q0i : 0 < ql := by omega
                  clear hq hql
                  go_wp2_with fail
                  refine QC.out.mono ?_
                  rintro e w5 ⟨v, rfl, ho, hb⟩
                  obtain ⟨va, vc, rfl, hva⟩ := own_shape ho
                  obtain ⟨qb, rfl⟩ : ∃ qb, va = some ⟨qb, 0, none⟩ := by
                    rcases hva with h | h
                    · omega
                    · exact h
                  have MK5 := Lib.hid (MK.out.below hb)
                  have HO := Lib.hid ho
                  clear ho hb QC MK hva
                  have FX : Hid (∀ wx, Below w5.heap.size w5 wx → (wx.cell? ⟨qb, 0, none⟩ = some (.int .i64 f.id) ∧ wx.cell? ⟨qb, 1, none⟩ = some (.int .i64 f.frm) ∧ wx.cell? ⟨qb, 2, none⟩ = some (.int .i64 f.dst) ∧ wx.cell? ⟨qb, 3, none⟩ = some (.int .i64 f.cls) ∧ wx.cell? ⟨qb, 4, none⟩ = some (.int .i64 f.ep) ∧ wx.cell? ⟨qb, 5, none⟩ = some (.slice none 0 0)) ∧
                      wx.cell? ⟨ko, 0, none⟩ = some (.slice a os.length c0)) := Lib.hid (by
                    intro wx hx
                    have hfr := own_upd HO.out (Upd.of_below (S := fun _ => False) hx) (fun _ _ => id)
                    have g := fun (j : Nat) (v : Value) (h1 : j < 6) (h2 : (frC f)[j]? = some v) => by
                      have := (ownC_cell frC_len (by decide) hfr (j := 0) (p := f) rfl (k := j) h1 h2).2
                      rw [adr_mk, Nat.zero_add, Nat.zero_mul, Nat.zero_add] at this
                      exact this
                    have hC := CC.out.below (MK5.out.2.2.2.2.2.trans (hx.mono MK5.out.2.2.2.2.2.size))
                    exact ⟨⟨g 0 _ (by decide) rfl, g 1 _ (by decide) rfl, g 2 _ (by decide) rfl, g 3 _ (by decide) rfl, g 4 _ (by decide) rfl, g 5 _ (by decide) rfl⟩, hC.2.1.cell (i := 0) rfl⟩)
                  have OU : Hid (∀ wx, Below w5.heap.size w5 wx → Calls Try.prog 13 #[.slice a os.length c0, .int .i64 p, frV f] wx fun e w' => e = .returned (.int .i64 (rtO os p f)) ∧ Below wx.heap.size wx w') :=
                    Lib.hid (fun wx hx => out_any wx a c0 os p f (CC.out.below (MK5.out.2.2.2.2.2.trans (hx.mono MK5.out.2.2.2.2.2.size))).2.2 ho1 ho8)
                  obtain ⟨way, hway⟩ : ∃ way, way = rtO os p f := ⟨_, rfl⟩
                  have FW : Hid ((¬ (0 ≤ way ∧ way < (P : Int)) → fi p = true) ∧ (0 ≤ way ∧ way < (P : Int) → 0 < x way.toNat c → fi p = true ∨ fo way.toNat = true)) := Lib.hid (by
                    rw [hway]
                    refine ⟨fun h => FC.out.1 ?_, fun h => FC.out.2 ?_⟩
                    · unfold noRt; simp; omega
                    · unfold noRt; simp; omega)
                  rw [← hway] at OU
                  obtain ⟨fid, ffr, fds, fcl, fep⟩ := f
                  unfold frV at OU
                  dsimp only at FX OU
                  clear FC hway HO
                  go_upto_region 16 with (fail)
                  obtain ⟨⟨f0, f1, f2, f3, f4, f5⟩, g4⟩ := FX.out _ ((Qt.refl w5).drew.bel)
                  refine wp_region_allH (fun wx => (wx.cell? ⟨qb, 0, none⟩ = some (.int .i64 fid) ∧ wx.cell? ⟨qb, 1, none⟩ = some (.int .i64 ffr) ∧ wx.cell? ⟨qb, 2, none⟩ = some (.int .i64 fds) ∧ wx.cell? ⟨qb, 3, none⟩ = some (.int .i64 fcl) ∧ wx.cell? ⟨qb, 4, none⟩ = some (.int .i64 fep) ∧ wx.cell? ⟨qb, 5, none⟩ = some (.slice none 0 0)) ∧ wx.cell? ⟨ko, 0, none⟩ = some (.slice a os.length c0)) 7 (by kernel_rfl) rfl ?_ (fun hHeld => ?_)
                  · (exact ⟨⟨f0, f1, f2, f3, f4, f5⟩, g4⟩)
                  refine wpAnyH_takeG (i := 0) (v := ?_) rfl (by kernel_rfl) (by kernel_rfl) (by kernel_rfl) (fun _ _ _ h => h) rfl ?_ hHeld ?_
                  rotate_left
                  · intro w hSw
                    try dsimp only at hSw
                    go_simp
                    all_goals with_reducible rfl
                  try simp only [Act.put, List.setIfInBounds_toArray, List.set_cons_zero, List.set_cons_succ]
                  refine wpAnyH_takeG (i := 1) (v := ?_) rfl (by kernel_rfl) (by kernel_rfl) (by kernel_rfl) (fun _ _ _ h => h) rfl ?_ hHeld ?_
                  rotate_left
                  · intro w hSw
                    try dsimp only at hSw
                    go_simp
                    all_goals with_reducible rfl
                  try simp only [Act.put, List.setIfInBounds_toArray, List.set_cons_zero, List.set_cons_succ]
                  refine wpAnyH_takeG (i := 2) (v := ?_) rfl (by kernel_rfl) (by kernel_rfl) (by kernel_rfl) (fun _ _ _ h => h) rfl ?_ hHeld ?_
                  rotate_left
                  · intro w hSw
                    try dsimp only at hSw
                    go_simp
                    all_goals with_reducible rfl
                  try simp only [Act.put, List.setIfInBounds_toArray, List.set_cons_zero, List.set_cons_succ]
                  refine wpAnyH_takeG (i := 3) (v := ?_) rfl (by kernel_rfl) (by kernel_rfl) (by kernel_rfl) (fun _ _ _ h => h) rfl ?_ hHeld ?_
                  rotate_left
                  · intro w hSw
                    try dsimp only at hSw
                    go_simp
                    all_goals with_reducible rfl
                  try simp only [Act.put, List.setIfInBounds_toArray, List.set_cons_zero, List.set_cons_succ]
                  refine wpAnyH_takeG (i := 4) (v := ?_) rfl (by kernel_rfl) (by kernel_rfl) (by kernel_rfl) (fun _ _ _ h => h) rfl ?_ hHeld ?_
                  rotate_left
                  · intro w hSw
                    try dsimp only at hSw
                    go_simp
                    all_goals with_reducible rfl
                  try simp only [Act.put, List.setIfInBounds_toArray, List.set_cons_zero, List.set_cons_succ]
                  refine wpAnyH_step (i := 5) (by kernel_rfl) rfl (fun KK hK => ?_)
                  (go_simp; (with_reducible refine (OU.out _ ((Qt.refl w5).drew.bel)).mono ?_); rintro e w9 ⟨rfl, hb9⟩; go_wp2_with fail)
                  refine hK.out _ _ ?_ (fun hHeld => ?_)
                  · (exact FX.out _ (((Qt.refl w5).drew.bel).trans hb9))
                  clear hK KK
                  try simp only [Act.put, List.setIfInBounds_toArray, List.set_cons_zero, List.set_cons_succ]
                  refine wpAnyH_takeG (i := 6) (v := ?_) rfl (by kernel_rfl) (by kernel_rfl) (by kernel_rfl) (fun _ _ _ h => h) rfl ?_ hHeld ?_
                  rotate_left
                  · intro w hSw
                    try dsimp only at hSw
                    go_simp
                    all_goals with_reducible rfl
                  try simp only [Act.put, List.setIfInBounds_toArray, List.set_cons_zero, List.set_cons_succ]
                  refine wpAnyH_done (by kernel_rfl) ?_ _
                  have h9 : Hid (Below w5.heap.size w5 w9) := Lib.hid (((Qt.refl w5).drew.bel).trans hb9)
                  clear hHeld hb9 f0 f1 f2 f3 f4 f5 g4 FX OU
                  have MK9 : Hid (MkB W P bi bo fi fo w9) := Lib.hid (MK5.out.below h9.out)
                  have p9 := (CC.out.below MK9.out.2.2.2.2.2).1.cell (i := 0) rfl
                  have i9 : w9.cell? ⟨bi, p, none⟩ = some (.bool (fi p)) := MK9.out.1.cell hlp
                  by_cases hin : 0 ≤ way ∧ way < (P : Int)
                  · obtain ⟨o, rfl⟩ : ∃ o : Nat, way = (o : Int) := ⟨way.toNat, by omega⟩
                    have hoP : o < P := by omega
                    have hF := FW.out.2 hin
                    rw [Int.toNat_natCast] at hF
                    have o9 : w9.cell? ⟨bo, o, none⟩ = some (.bool (fo o)) := MK9.out.2.1.cell hoP
                    have hb9 := MK9.out.2.2.2.2.2
                    have t0 := (hb9.cell (World.block_lt_of_cell? _ _ (TT.out o hoP).1)).trans (TT.out o hoP).1
                    have t1 := (hb9.cell (World.block_lt_of_cell? _ _ ((TT.out o hoP).2 c hlc))).trans ((TT.out o hoP).2 c hlc)
                    have o0 : ¬ (o : Int) < 0 := by omega
                    have o1 : ¬ (P : Int) ≤ (o : Int) := by omega
                    have oi : (o : Int) < (P : Int) := by omega
                    have oz : (0 : Int) ≤ (o : Int) := by omega
                    have cz : (0 : Int) ≤ (c : Int) := by omega
                    clear FW hin hb9
                    cases e1 : fi p with
                    | true =>
                      rw [e1] at i9
                      clear hF e1
                      go_wp2_with fail
                      go_roundw
                      case rel => exact ⟨c + 1, by omega, by go_num, MK9.out⟩
                      case measure => simp [intOf]; omega
                    | false =>
                      rw [e1] at i9
                      cases e2 : fo o with
                      | true =>
                        rw [e2] at o9
                        clear hF e1 e2
                        go_wp2_with fail
                        go_roundw
                        case rel => exact ⟨c + 1, by omega, by go_num, MK9.out⟩
                        case measure => simp [intOf]; omega
                      | false =>
                        rw [e2] at o9
                        have hx0 : ¬ 0 < x o c := fun h => by
                          rcases hF h with h | h
                          · rw [e1] at h; cases h
                          · rw [e2] at h; cases h
                        clear hF e1 e2
                        go_wp2_with fail
                        go_roundw
                        case rel => exact ⟨c + 1, by omega, by go_num, MK9.out⟩
                        case measure => simp [intOf]; omega
                  · have hF := FW.out.1 hin
                    rw [hF] at i9
                    clear FW hF
                    by_cases w0 : way < 0
                    · clear hin
                      go_wp2_with fail
                      go_roundw
                      case rel => exact ⟨c + 1, by omega, by go_num, MK9.out⟩
                      case measure => simp [intOf]; omega
                    · have w1 : (P : Int) ≤ way := by omega
                      clear hin
                      go_wp2_with fail
                      go_roundw
                      case rel => exact ⟨c + 1, by omega, by go_num, MK9.out⟩
                      case measure => simp [intOf]; omega
              · obtain rfl : c = K := by omega
                go_wp2_with fail
                go_roundw
                case rel => exact ⟨p + 1, by omega, by go_num, MK.out⟩
                case measure => simp [intOf]; omega
          · obtain rfl : p = P := by omega
            have b1 := MK.out.2.2.2.2.2
            go_wp2_with fail
            go_ret
            exact ⟨rfl, b1⟩
end Go.Proofs.Ytkooihniieepcaa
