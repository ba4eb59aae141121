/-
  SwitchboxOnce: the closure that looks at the moves of a Step.
-/
import Derived.Test.YtkooihniieepcaaSwZ
import Derived.Test.YtkooihniieepcaaBarMatch
namespace Go.Proofs.Ytkooihniieepcaa
open Go.RowKit
set_option linter.unusedVariables false

/-- The captured cells of a check: the number of ports, the outputs. -/
def OnCI (a : Option Addr) (c0 P : Nat) (os : List Int) (kp ko : Nat) (w : World) : Prop := Blk w kp 3 [.int .i64 P] ∧ Blk w ko 22 [.slice a os.length c0] ∧ SlI w a os
def OnK (a : Option Addr) (kp ko : Nat) (k : Nat) : Prop := k = kp ∨ k = ko ∨ k = (a.getD default).block
section
variable {a : Option Addr} {c0 P : Nat} {os : List Int} {kp ko : Nat} {w w' : World} {S : Nat → Prop}
theorem OnCI.upd (h : OnCI a c0 P os kp ko w) (u : Upd S w w') (hs : ∀ k, OnK a kp ko k → ¬ S k) : OnCI a c0 P os kp ko w' :=
  ⟨h.1.upd u (hs kp (.inl rfl)), h.2.1.upd u (hs ko (.inr (.inl rfl))), h.2.2.upd u fun _ => hs _ (.inr (.inr rfl))⟩
theorem OnCI.below (h : OnCI a c0 P os kp ko w) (u : Below w.heap.size w w') : OnCI a c0 P os kp ko w' := h.upd (Upd.of_below (S := fun _ => False) u) fun _ _ => id
theorem OnCI.lt (h : OnCI a c0 P os kp ko w) (h1 : 1 ≤ os.length) {k : Nat} (hk : OnK a kp ko k) : k < w.heap.size := by
  rcases hk with rfl | rfl | rfl
  · exact h.1.lt
  · exact h.2.1.lt
  · exact h.2.2.old (by intro e; rw [e] at h1; simp at h1)
end
theorem mk_false (w : World) (n : Nat) (h : n ≤ 1000000) : (Instr.makeSlice 32 (.int .i64 n) (.int .i64 n)).run Try.prog w = .ok (.slice (some ⟨w.heap.size, 0, none⟩) n n) (w.alloc (.cells ((List.range n).map (bF fun _ => false)).toArray 4)) := by
  rw [make_bools w n h, fun_const Value.bool n false]
  rfl
/-- Two blocks of truth values, of the call's own. -/
def MkB (w0 : World) (P bi bo : Nat) (fi fo : Nat → Bool) (w : World) : Prop :=
  Fun w bi 4 P (bF fi) ∧ Fun w bo 4 P (bF fo) ∧ bi ≠ bo ∧ w0.heap.size ≤ bi ∧ w0.heap.size ≤ bo ∧ Below w0.heap.size w0 w
theorem al2 (w : World) (o1 o2 : Obj) : ((w.alloc o1).alloc o2).drew.heap[w.heap.size]? = some o1 ∧ ((w.alloc o1).alloc o2).drew.heap[w.heap.size + 1]? = some o2 ∧ Below w.heap.size w ((w.alloc o1).alloc o2).drew := by
  have h1 : ((w.alloc o1).alloc o2).heap[w.heap.size]? = some o1 := by
    rw [Below.heap_alloc _ _ _ (by simp)]; exact heap_alloc_new w o1
  have h2 : ((w.alloc o1).alloc o2).heap[w.heap.size + 1]? = some o2 := by
    have := heap_alloc_new (w.alloc o1) o2
    rw [World.size_alloc] at this; exact this
  exact ⟨h1, h2, ((((Below.refl _ w).alloc (Nat.le_refl _) _).alloc (by simp) _)).trans ((Qt.refl _).drew.below _)⟩
section
variable {w0 w w' : World} {P bi bo : Nat} {fi fo : Nat → Bool}
theorem MkB.below (h : MkB w0 P bi bo fi fo w) (u : Below w.heap.size w w') : MkB w0 P bi bo fi fo w' :=
  ⟨h.1.below u, h.2.1.below u, h.2.2.1, h.2.2.2.1, h.2.2.2.2.1, h.2.2.2.2.2.trans (u.mono h.2.2.2.2.2.size)⟩
theorem MkB.setI (h : MkB w0 P bi bo fi fo w) {p : Nat} (hp : p < P) : MkB w0 P bi bo (Bar.upd fi p true) fo (w.setCell ⟨bi, p, none⟩ (.bool true)) := by
  refine ⟨?_, h.2.1.setO _ (fun e => h.2.2.1 e.symm), h.2.2.1, h.2.2.2.1, h.2.2.2.2.1, h.2.2.2.2.2.setCell (p := ⟨bi, p, none⟩) h.2.2.2.1 (.bool true)⟩
  rw [← bF_upd]
  exact h.1.set hp _
theorem MkB.setO (h : MkB w0 P bi bo fi fo w) {p : Nat} (hp : p < P) : MkB w0 P bi bo fi (Bar.upd fo p true) (w.setCell ⟨bo, p, none⟩ (.bool true)) := by
  refine ⟨h.1.setO _ h.2.2.1, ?_, h.2.2.1, h.2.2.2.1, h.2.2.2.2.1, h.2.2.2.2.2.setCell (p := ⟨bo, p, none⟩) h.2.2.2.2.1 (.bool true)⟩
  rw [← bF_upd]
  exact h.2.1.set hp _
end
theorem mk_two (w : World) (P : Nat) :
    MkB w P w.heap.size (w.heap.size + 1) (fun _ => false) (fun _ => false) ((w.alloc (.cells ((List.range P).map (bF fun _ => false)).toArray 4)).alloc (.cells ((List.range P).map (bF fun _ => false)).toArray 4)).drew ∧
    MkB w P (w.heap.size + 1) w.heap.size (fun _ => false) (fun _ => false) ((w.alloc (.cells ((List.range P).map (bF fun _ => false)).toArray 4)).alloc (.cells ((List.range P).map (bF fun _ => false)).toArray 4)).drew := by
  obtain ⟨h1, h2, h3⟩ := al2 w (.cells ((List.range P).map (bF fun _ => false)).toArray 4) (.cells ((List.range P).map (bF fun _ => false)).toArray 4)
  exact ⟨⟨h1, h2, by omega, Nat.le_refl _, by omega, h3⟩, ⟨h2, h1, by omega, by omega, Nat.le_refl _, h3⟩⟩
theorem pw_at {α : Type} {R : α → α → Prop} {l : List α} (h : List.Pairwise R l) {j k : Nat} {x y : α} (hj : l[j]? = some x) (hk : l[k]? = some y) (hlt : j < k) : R x y := by
  obtain ⟨h1, e1⟩ := List.getElem?_eq_some_iff.1 hj
  obtain ⟨h2, e2⟩ := List.getElem?_eq_some_iff.1 hk
  rw [← e1, ← e2]
  exact List.pairwise_iff_getElem.1 h j k h1 h2 hlt
/-- Behind k moves: what is marked belongs to one of them. -/
def OnIn (w0 : World) (P bi bo : Nat) (mv : List Mv) (k : Nat) (w : World) : Prop :=
  ∃ fi fo, MkB w0 P bi bo fi fo w ∧
    (∀ p : Nat, fi p = true → ∃ (j : Nat) (m : Mv), j < k ∧ mv[j]? = some m ∧ m.o ≠ -1 ∧ m.p = (p : Int)) ∧ (∀ o : Nat, fo o = true → ∃ (j : Nat) (m : Mv), j < k ∧ mv[j]? = some m ∧ m.o ≠ -1 ∧ m.o = (o : Int))
def OnRel (w0 : World) (P bi bo : Nat) (mv : List Mv) (n : Nat) (iv : Value) (w : World) : Prop := ∃ k ≤ n, iv = .int .i64 k ∧ OnIn w0 P bi bo mv k w
theorem OnIn.skip {w0 w : World} {P bi bo : Nat} {fi fo : Nat → Bool} {mv : List Mv} {k : Nat} (hM : MkB w0 P bi bo fi fo w) (hi : ∀ p : Nat, fi p = true → ∃ (j : Nat) (m : Mv), j < k ∧ mv[j]? = some m ∧ m.o ≠ -1 ∧ m.p = (p : Int)) (ho : ∀ o : Nat, fo o = true → ∃ (j : Nat) (m : Mv), j < k ∧ mv[j]? = some m ∧ m.o ≠ -1 ∧ m.o = (o : Int)) : OnIn w0 P bi bo mv (k + 1) w :=
  ⟨fi, fo, hM, fun p h => (let ⟨j, m, h1, h2⟩ := hi p h; ⟨j, m, by omega, h2⟩), fun p h => (let ⟨j, m, h1, h2⟩ := ho p h; ⟨j, m, by omega, h2⟩)⟩
theorem OnIn.mark {w0 w : World} {P bi bo : Nat} {fi fo : Nat → Bool} {mv : List Mv} {k q o : Nat} {c : Int} (hM : MkB w0 P bi bo (Bar.upd fi q true) (Bar.upd fo o true) w) (hm : mv[k]? = some ⟨q, c, o⟩) (h1 : (o : Int) ≠ -1) (hi : ∀ p : Nat, fi p = true → ∃ (j : Nat) (m : Mv), j < k ∧ mv[j]? = some m ∧ m.o ≠ -1 ∧ m.p = (p : Int)) (ho : ∀ o : Nat, fo o = true → ∃ (j : Nat) (m : Mv), j < k ∧ mv[j]? = some m ∧ m.o ≠ -1 ∧ m.o = (o : Int)) : OnIn w0 P bi bo mv (k + 1) w := by
  refine ⟨_, _, hM, fun p h => ?_, fun p h => ?_⟩
  · by_cases e : p = q
    · subst e
      exact ⟨k, _, by omega, hm, h1, rfl⟩
    · rw [Bar.upd_ne _ _ e] at h
      obtain ⟨j, m, h1, h2⟩ := hi p h
      exact ⟨j, m, by omega, h2⟩
  · by_cases e : p = o
    · subst e
      exact ⟨k, _, by omega, hm, h1, rfl⟩
    · rw [Bar.upd_ne _ _ e] at h
      obtain ⟨j, m, h1, h2⟩ := ho p h
      exact ⟨j, m, by omega, h2⟩
set_option maxHeartbeats 8000000 in
set_option maxRecDepth 100000 in
theorem once1_any (W : World) (P K B2 n : Nat) (bv : Value) (a : Option Addr) (c0 : Nat) (os : List Int) (kp ko : Nat) (mv : List Mv) (fr : List Fr) (ma fa : Option Addr) (mc fc : Nat) (ta : Nat) (tc : Nat) (tb : Nat → Nat) (x : Nat → Nat → Int)
    (hC : OnCI a c0 P os kp ko W) (ho1 : 1 ≤ os.length) (ho8 : os.length ≤ 8) (hP : P ≤ 8) (hK : K ≤ 8) (hn : mv.length = n) (hf : fr.length = n) (hn5 : n ≤ 5000)
    (hM : W.ownsRow B2 34 3 (.slice ma n mc) n (flC mvC mv)) (hF : W.ownsRow B2 39 6 (.slice fa n fc) n (flC frC fr))
    (hT : ∀ o < P, W.cell? ⟨ta, o, none⟩ = some (.slice (some ⟨tb o, 0, none⟩) K K) ∧ ∀ c < K, W.cell? ⟨tb o, c, none⟩ = some (.int .i64 (x o c)) ∧ 0 ≤ x o c)
    (hA : ∀ (j : Nat) m f, mv[j]? = some m → fr[j]? = some f → ∃ p c, m.p = ((p : Nat) : Int) ∧ m.c = ((c : Nat) : Int) ∧ p < P ∧ c < K ∧ f.cls = (c : Int) ∧ (m.o = -1 → noRt P (rtO os) p f = true) ∧ (m.o ≠ -1 → rtO os p f = m.o ∧ 0 ≤ m.o ∧ m.o < P))
    (hW : List.Pairwise (fun a b : Mv => a.o ≠ -1 → b.o ≠ -1 → a.p ≠ b.p ∧ a.o ≠ b.o) mv) :
    Calls Try.prog 12 #[bv, .slice ma n mc, .slice fa n fc, .slice (some ⟨ta, 0, none⟩) P tc, .pointer (some ⟨kp, 0, none⟩), .pointer (some ⟨ko, 0, none⟩)] W fun e w' => e = .returned (.bool true) ∧ Below W.heap.size W w' := by
  have CC := Lib.hid hC; have MM := Lib.hid hM; have FF := Lib.hid hF; have TT := Lib.hid hT; have AA := Lib.hid hA; have WW := Lib.hid hW
  have HN := Lib.hid hn; have HF := Lib.hid hf
  have c0p := hC.1.cell (i := 0) rfl
  have lk := hC.1.lt
  clear hC hM hF hT hA hW hn hf
  have hm1 := fun w : World => mk_false w P (by omega)
  go_enter Try.func12, Try.ntmps12
  go_upto_region 1 with (fail)
  go_cut [11, 12] from 16 to 19 (fun vi vo wx => ∃ bi bo, vi = .slice (some ⟨bi, 0, none⟩) P P ∧ vo = .slice (some ⟨bo, 0, none⟩) P P ∧ MkB W P bi bo (fun _ => false) (fun _ => false) wx)
  case first =>
    have M2 := Lib.hid (mk_two W P)
    generalize hLB : (List.range P).map (bF fun _ => false) = LB at *
    go_region
    all_goals
      (try go_wp2_with fail)
      go_meet
      first
        | exact ⟨_, _, rfl, rfl, M2.out.1⟩
        | exact ⟨_, _, rfl, rfl, M2.out.2⟩
  case rest =>
    obtain ⟨bi, bo, rfl, rfl, hk⟩ := hcut
    have R0 : Hid (OnRel W P bi bo mv n (.int .i64 0) _) := Lib.hid ⟨0, Nat.zero_le _, rfl, _, _, hk, fun _ h => (by cases h), fun _ h => (by cases h)⟩
    clear hk c0p hm1 lk
    go_wp2_with fail
    go_loopw [22] (fun iv wx => OnRel W P bi bo mv n iv wx) (fun iv _ => n - (intOf iv).toNat)
    case atStart => exact R0.out
    case round =>
      clear R0
      obtain ⟨k, hk, rfl, fi, fo, hmk, hi, ho⟩ := hrel
      have MK := Lib.hid hmk
      have HI := Lib.hid hi; have HO := Lib.hid ho
      clear hmk hi ho
      by_cases hlt : k < n
      · have hki : (k : Int) < (n : Int) := by omega
        obtain ⟨mm, hmm⟩ : ∃ mm, mv[k]? = some mm := ⟨mv[k]'(by rw [HN.out]; exact hlt), by simp [show k < mv.length by rw [HN.out]; exact hlt]⟩
        obtain ⟨ff, hff⟩ : ∃ ff, fr[k]? = some ff := ⟨fr[k]'(by rw [HF.out]; exact hlt), by simp [show k < fr.length by rw [HF.out]; exact hlt]⟩
        obtain ⟨q, c, eq, ec, hqP, hcK, hcl, hno, hyes⟩ := AA.out k mm ff hmm hff
        obtain ⟨mp, mcl, mo⟩ := mm
        obtain rfl : mp = (q : Int) := eq
        obtain rfl : mcl = (c : Int) := ec
        have BW : Hid (Below W.heap.size W wr) := Lib.hid MK.out.2.2.2.2.2
        obtain ⟨wq, hwq⟩ : ∃ wq, wq = wr.alloc (.cells #[.int .i64 q, .int .i64 c, .int .i64 mo] 34) := ⟨_, rfl⟩
        obtain ⟨mb, hmb⟩ : ∃ mb, mb = wr.heap.size := ⟨_, rfl⟩
        have MB : Hid (Blk wq mb 34 (mvC ⟨q, c, mo⟩)) := Lib.hid (by rw [hwq, hmb]; exact Blk.new wr _ (mvC ⟨q, c, mo⟩))
        have BQ : Hid (Below W.heap.size W wq) := Lib.hid (BW.out.trans (by rw [hwq]; exact (Below.refl _ _).alloc BW.out.size _))
        have MKQ : Hid (MkB W P bi bo fi fo wq) := Lib.hid (MK.out.below (by rw [hwq]; exact (Below.refl _ _).alloc (Nat.le_refl _) _))
        have hrow := own_upd MM.out (Upd.of_below (S := fun _ => False) BW.out) (fun _ _ => id)
        obtain ⟨ok1, m0⟩ := ownC_cell mvC_len (by decide) hrow hmm (k := 0) (by decide) rfl
        obtain ⟨_, m1⟩ := ownC_cell mvC_len (by decide) hrow hmm (k := 1) (by decide) rfl
        obtain ⟨_, m2⟩ := ownC_cell mvC_len (by decide) hrow hmm (k := 2) (by decide) rfl
        rw [Nat.add_zero] at m0
        have FX : Hid (∀ wx, Below wq.heap.size wq wx → (okAd fa = true ∧ wx.cell? (adr fa (k * 6)) = some (.int .i64 ff.id) ∧ wx.cell? (adr fa (k * 6 + 1)) = some (.int .i64 ff.frm) ∧ wx.cell? (adr fa (k * 6 + 2)) = some (.int .i64 ff.dst) ∧ wx.cell? (adr fa (k * 6 + 3)) = some (.int .i64 ff.cls) ∧ wx.cell? (adr fa (k * 6 + 4)) = some (.int .i64 ff.ep) ∧ wx.cell? (adr fa (k * 6 + 5)) = some (.slice none 0 0)) ∧
            wx.cell? ⟨mb, 0, none⟩ = some (.int .i64 q) ∧ wx.cell? ⟨mb, 1, none⟩ = some (.int .i64 c) ∧ wx.cell? ⟨mb, 2, none⟩ = some (.int .i64 mo) ∧ wx.cell? ⟨kp, 0, none⟩ = some (.int .i64 P) ∧ wx.cell? ⟨ko, 0, none⟩ = some (.slice a os.length c0)) := Lib.hid (by
          intro wx hx
          have hb := BQ.out.trans (hx.mono BQ.out.size)
          have hfr := own_upd FF.out (Upd.of_below (S := fun _ => False) hb) (fun _ _ => id)
          have g := fun (j : Nat) (v : Value) (h1 : j < 6) (h2 : (frC ff)[j]? = some v) => ownC_cell frC_len (by decide) hfr hff (k := j) h1 h2
          have hM := Blk.upd MB.out (Upd.of_below (S := fun _ => False) hx) id
          have hC := CC.out.below hb
          exact ⟨⟨(g 0 _ (by decide) rfl).1, (g 0 _ (by decide) rfl).2, (g 1 _ (by decide) rfl).2, (g 2 _ (by decide) rfl).2, (g 3 _ (by decide) rfl).2, (g 4 _ (by decide) rfl).2, (g 5 _ (by decide) rfl).2⟩, hM.cell (i := 0) rfl, hM.cell (i := 1) rfl, hM.cell (i := 2) rfl, hC.1.cell (i := 0) rfl, hC.2.1.cell (i := 0) rfl⟩)
        have OU : Hid (∀ wx, Below W.heap.size W wx → Calls Try.prog 13 #[.slice a os.length c0, .int .i64 q, frV ff] wx fun e w' => e = .returned (.int .i64 (rtO os q ff)) ∧ Below wx.heap.size wx w') :=
          Lib.hid (fun wx hx => out_any wx a c0 os q ff (CC.out.below hx).2.2 ho1 ho8)
        obtain ⟨fid, ffr, fds, fcl, fep⟩ := ff
        obtain rfl : fcl = (c : Int) := hcl
        unfold frV at OU
        dsimp only at FX OU
        have HMM := Lib.hid hmm
        have hq0 : (0 : Int) ≤ (q : Int) := by omega
        have hqi : (q : Int) < (P : Int) := by omega
        generalize hway : rtO os q ⟨fid, ffr, fds, c, fep⟩ = way at *
        have HWY := Lib.hid hway
        clear hrow hmm hff hway
        go_upto_region 5 with (fail)
        rw [← hwq, ← hmb]
        have NB : Hid (mb ≠ bi ∧ mb ≠ bo) := Lib.hid (by have h1 := MK.out.1.lt; have h2 := MK.out.2.1.lt; omega)
        clear hwq hmb m0 m1 m2 ok1 MK
        obtain ⟨⟨okf, f0, f1, f2, f3, f4, f5⟩, g0, g1, g2, g3, g4⟩ := FX.out _ ((Qt.refl wq).drew.bel)
        clear g1 g2 g3
        refine wp_region_allH (fun wx => (wx.cell? (adr fa (k * 6)) = some (.int .i64 fid) ∧ wx.cell? (adr fa (k * 6 + 1)) = some (.int .i64 ffr) ∧ wx.cell? (adr fa (k * 6 + 2)) = some (.int .i64 fds) ∧ wx.cell? (adr fa (k * 6 + 3)) = some (.int .i64 c) ∧ wx.cell? (adr fa (k * 6 + 4)) = some (.int .i64 fep) ∧ wx.cell? (adr fa (k * 6 + 5)) = some (.slice none 0 0)) ∧ wx.cell? ⟨mb, 0, none⟩ = some (.int .i64 q) ∧ wx.cell? ⟨ko, 0, none⟩ = some (.slice a os.length c0)) 9 (by kernel_rfl) rfl ?_ (fun hHeld => ?_)
        · (exact ⟨⟨f0, f1, f2, f3, f4, f5⟩, g0, g4⟩)
        refine wpAnyH_takeG (i := 0) (v := ?_) rfl (by kernel_rfl) (by kernel_rfl) (by kernel_rfl) (fun _ _ _ h => h) rfl ?_ hHeld ?_
        rotate_left
        · intro w hSw
          try dsimp only at hSw
          go_simp
          all_goals with_reducible rfl
        try simp only [Act.put, List.setIfInBounds_toArray, List.set_cons_zero, List.set_cons_succ]
        refine wpAnyH_takeG (i := 1) (v := ?_) rfl (by kernel_rfl) (by kernel_rfl) (by kernel_rfl) (fun _ _ _ h => h) rfl ?_ hHeld ?_
        rotate_left
        · intro w hSw
          try dsimp only at hSw
          go_simp
          all_goals with_reducible rfl
        try simp only [Act.put, List.setIfInBounds_toArray, List.set_cons_zero, List.set_cons_succ]
        refine wpAnyH_takeG (i := 2) (v := ?_) rfl (by kernel_rfl) (by kernel_rfl) (by kernel_rfl) (fun _ _ _ h => h) rfl ?_ hHeld ?_
        rotate_left
        · intro w hSw
          try dsimp only at hSw
          go_simp
          all_goals with_reducible rfl
        try simp only [Act.put, List.setIfInBounds_toArray, List.set_cons_zero, List.set_cons_succ]
        refine wpAnyH_takeG (i := 3) (v := ?_) rfl (by kernel_rfl) (by kernel_rfl) (by kernel_rfl) (fun _ _ _ h => h) rfl ?_ hHeld ?_
        rotate_left
        · intro w hSw
          try dsimp only at hSw
          go_simp
          all_goals with_reducible rfl
        try simp only [Act.put, List.setIfInBounds_toArray, List.set_cons_zero, List.set_cons_succ]
        refine wpAnyH_takeG (i := 4) (v := ?_) rfl (by kernel_rfl) (by kernel_rfl) (by kernel_rfl) (fun _ _ _ h => h) rfl ?_ hHeld ?_
        rotate_left
        · intro w hSw
          try dsimp only at hSw
          go_simp
          all_goals with_reducible rfl
        try simp only [Act.put, List.setIfInBounds_toArray, List.set_cons_zero, List.set_cons_succ]
        refine wpAnyH_takeG (i := 5) (v := ?_) rfl (by kernel_rfl) (by kernel_rfl) (by kernel_rfl) (fun _ _ _ h => h) rfl ?_ hHeld ?_
        rotate_left
        · intro w hSw
          try dsimp only at hSw
          go_simp
          all_goals with_reducible rfl
        try simp only [Act.put, List.setIfInBounds_toArray, List.set_cons_zero, List.set_cons_succ]
        refine wpAnyH_takeG (i := 6) (v := ?_) rfl (by kernel_rfl) (by kernel_rfl) (by kernel_rfl) (fun _ _ _ h => h) rfl ?_ hHeld ?_
        rotate_left
        · intro w hSw
          try dsimp only at hSw
          go_simp
          all_goals with_reducible rfl
        try simp only [Act.put, List.setIfInBounds_toArray, List.set_cons_zero, List.set_cons_succ]
        refine wpAnyH_step (i := 7) (by kernel_rfl) rfl (fun KK hK => ?_)
        (go_simp; (with_reducible refine (OU.out _ (BQ.out.trans (((Qt.refl wq).drew.bel).mono BQ.out.size))).mono ?_); rintro e w9 ⟨rfl, hb9⟩; go_wp2_with fail)
        refine hK.out _ _ ?_ (fun hHeld => ?_)
        · (exact (fun h => ⟨⟨h.1.2.1, h.1.2.2.1, h.1.2.2.2.1, h.1.2.2.2.2.1, h.1.2.2.2.2.2.1, h.1.2.2.2.2.2.2⟩, h.2.1, h.2.2.2.2.2⟩) (FX.out _ (((Qt.refl wq).drew.bel).trans hb9)))
        clear hK KK
        try simp only [Act.put, List.setIfInBounds_toArray, List.set_cons_zero, List.set_cons_succ]
        refine wpAnyH_takeG (i := 8) (v := ?_) rfl (by kernel_rfl) (by kernel_rfl) (by kernel_rfl) (fun _ _ _ h => h) rfl ?_ hHeld ?_
        rotate_left
        · intro w hSw
          try dsimp only at hSw
          go_simp
          all_goals with_reducible rfl
        try simp only [Act.put, List.setIfInBounds_toArray, List.set_cons_zero, List.set_cons_succ]
        refine wpAnyH_done (by kernel_rfl) ?_ _
        have h9 : Hid (Below wq.heap.size wq w9) := Lib.hid (((Qt.refl wq).drew.bel).trans hb9)
        clear hHeld hb9 f0 f1 f2 f3 f4 f5 g0 g4
        have hA : Hid (Below wq.heap.size wq w9.drew) := Lib.hid (h9.out.trans ((Qt.refl w9).drew.bel.mono h9.out.size))
        obtain ⟨⟨_, _, _, _, f3, _, _⟩, g0, g1, g2, g3, g4⟩ := FX.out _ hA.out
        have MKA : Hid (MkB W P bi bo fi fo w9.drew) := Lib.hid (MKQ.out.below hA.out)
        have MBA : Hid (Blk w9.drew mb 34 (mvC ⟨q, c, mo⟩)) := Lib.hid (Blk.upd MB.out (Upd.of_below (S := fun _ => False) hA.out) id)
        clear g4 FX OU MKQ MB
        go_upto_region 6 with (fail)
        refine wp_region_allH (fun wx => wx.cell? (adr fa (k * 6 + 3)) = some (.int .i64 c) ∧ wx.cell? ⟨mb, 1, none⟩ = some (.int .i64 c)) 8 (by kernel_rfl) rfl ?_ (fun hHeld => ?_)
        · (exact ⟨f3, g1⟩)
        refine wpAnyH_takeG (i := 0) (v := ?_) rfl (by kernel_rfl) (by kernel_rfl) (by kernel_rfl) (fun _ _ _ h => h) rfl ?_ hHeld ?_
        rotate_left
        · intro w hSw
          try dsimp only at hSw
          go_simp
          all_goals with_reducible rfl
        try simp only [Act.put, List.setIfInBounds_toArray, List.set_cons_zero, List.set_cons_succ]
        refine wpAnyH_takeG (i := 1) (v := ?_) rfl (by kernel_rfl) (by kernel_rfl) (by kernel_rfl) (fun _ _ _ h => h) rfl ?_ hHeld ?_
        rotate_left
        · intro w hSw
          try dsimp only at hSw
          go_simp
          all_goals with_reducible rfl
        try simp only [Act.put, List.setIfInBounds_toArray, List.set_cons_zero, List.set_cons_succ]
        refine wpAnyH_takeG (i := 2) (v := ?_) rfl (by kernel_rfl) (by kernel_rfl) (by kernel_rfl) (fun _ _ _ h => h) rfl ?_ hHeld ?_
        rotate_left
        · intro w hSw
          try dsimp only at hSw
          go_simp
          all_goals with_reducible rfl
        try simp only [Act.put, List.setIfInBounds_toArray, List.set_cons_zero, List.set_cons_succ]
        refine wpAnyH_takeG (i := 3) (v := ?_) rfl (by kernel_rfl) (by kernel_rfl) (by kernel_rfl) (fun _ _ _ h => h) rfl ?_ hHeld ?_
        rotate_left
        · intro w hSw
          try dsimp only at hSw
          go_simp
          all_goals with_reducible rfl
        try simp only [Act.put, List.setIfInBounds_toArray, List.set_cons_zero, List.set_cons_succ]
        refine wpAnyH_takeG (i := 4) (v := ?_) rfl (by kernel_rfl) (by kernel_rfl) (by kernel_rfl) (fun _ _ _ h => h) rfl ?_ hHeld ?_
        rotate_left
        · intro w hSw
          try dsimp only at hSw
          go_simp
          all_goals with_reducible rfl
        try simp only [Act.put, List.setIfInBounds_toArray, List.set_cons_zero, List.set_cons_succ]
        refine wpAnyH_takeG (i := 5) (v := ?_) rfl (by kernel_rfl) (by kernel_rfl) (by kernel_rfl) (fun _ _ _ h => h) rfl ?_ hHeld ?_
        rotate_left
        · intro w hSw
          try dsimp only at hSw
          go_simp
          all_goals with_reducible rfl
        try simp only [Act.put, List.setIfInBounds_toArray, List.set_cons_zero, List.set_cons_succ]
        refine wpAnyH_takeG (i := 6) (v := ?_) rfl (by kernel_rfl) (by kernel_rfl) (by kernel_rfl) (fun _ _ _ h => h) rfl ?_ hHeld ?_
        rotate_left
        · intro w hSw
          try dsimp only at hSw
          go_simp
          all_goals with_reducible rfl
        try simp only [Act.put, List.setIfInBounds_toArray, List.set_cons_zero, List.set_cons_succ]
        refine wpAnyH_takeG (i := 7) (v := ?_) rfl (by kernel_rfl) (by kernel_rfl) (by kernel_rfl) (fun _ _ _ h => h) rfl ?_ hHeld ?_
        rotate_left
        · intro w hSw
          try dsimp only at hSw
          go_simp
          all_goals with_reducible rfl
        try simp only [Act.put, List.setIfInBounds_toArray, List.set_cons_zero, List.set_cons_succ]
        refine wpAnyH_done (by kernel_rfl) ?_ _
        clear hHeld f3 okf
        by_cases e1 : mo = -1
        · subst e1
          have hnr := hno rfl
          unfold noRt at hnr
          rw [HWY.out] at hnr
          simp at hnr
          have FN : Hid (OnIn W P bi bo mv (k + 1) w9.drew) := Lib.hid (OnIn.skip MKA.out HI.out HO.out)
          clear hno hyes MKA MBA g0 g1
          by_cases hw0 : 0 ≤ way
          · have hwP : ¬ way < (P : Int) := by omega
            clear hnr
            go_wp2_with fail
            go_roundw
            case rel => exact ⟨k + 1, by omega, by go_num, FN.out⟩
            case measure => simp [intOf]; omega
          · clear hnr
            go_wp2_with fail
            go_roundw
            case rel => exact ⟨k + 1, by omega, by go_num, FN.out⟩
            case measure => simp [intOf]; omega
        · obtain ⟨hr, h0, hlP⟩ := hyes e1
          have hr : way = mo := hr
          have h0 : 0 ≤ mo := h0
          have hlP : mo < (P : Int) := hlP
          obtain ⟨o, rfl⟩ : ∃ o : Nat, mo = (o : Int) := ⟨mo.toNat, by omega⟩
          subst hr
          have hoP : o < P := by omega
          have hfi : fi q = false := by
            cases e : fi q with
            | false => rfl
            | true =>
              obtain ⟨j, m, h1, h2, h3, h4⟩ := HI.out q e
              exact absurd h4 ((pw_at WW.out h2 HMM.out h1) h3 e1).1
          have hfo : fo o = false := by
            cases e : fo o with
            | false => rfl
            | true =>
              obtain ⟨j, m, h1, h2, h3, h4⟩ := HO.out o e
              exact absurd h4 ((pw_at WW.out h2 HMM.out h1) h3 e1).2
          have b1 : w9.drew.cell? ⟨bi, q, none⟩ = some (.bool false) := by rw [MKA.out.1.cell hqP]; unfold bF; rw [hfi]
          have b2 : w9.drew.cell? ⟨bo, o, none⟩ = some (.bool false) := by rw [MKA.out.2.1.cell hoP]; unfold bF; rw [hfo]
          have hW9 := MKA.out.2.2.2.2.2
          have t0 := (hW9.cell (World.block_lt_of_cell? _ _ (TT.out o hoP).1)).trans (TT.out o hoP).1
          have t1 := (hW9.cell (World.block_lt_of_cell? _ _ ((TT.out o hoP).2 c hcK).1)).trans ((TT.out o hoP).2 c hcK).1
          have x0 : ¬ x o c < 0 := by have := ((TT.out o hoP).2 c hcK).2; omega
          have hoi : (o : Int) < (P : Int) := by omega
          have hc0 : (0 : Int) ≤ (c : Int) := by omega
          have hcK' : (c : Int) < (K : Int) := by omega
          have E1 := Lib.hid e1
          clear hno hyes hr hfi hfo hW9 e1
          go_upto_region 11 with (fail)
          refine wp_region_allH (fun wx => (wx.cell? ⟨mb, 0, none⟩ = some (.int .i64 q) ∧ wx.cell? ⟨mb, 1, none⟩ = some (.int .i64 c) ∧ wx.cell? ⟨mb, 2, none⟩ = some (.int .i64 o)) ∧ wx.cell? ⟨bi, q, none⟩ = some (.bool false) ∧ wx.cell? ⟨bo, o, none⟩ = some (.bool false) ∧ wx.cell? ⟨ta, o, none⟩ = some (.slice (some ⟨tb o, 0, none⟩) K K) ∧ wx.cell? ⟨tb o, c, none⟩ = some (.int .i64 (x o c))) 30 (by kernel_rfl) rfl ?_ (fun hHeld => ?_)
          · (exact ⟨⟨g0, g1, g2⟩, b1, b2, t0, t1⟩)
          refine wpAnyH_takeG (i := 0) (v := ?_) rfl (by kernel_rfl) (by kernel_rfl) (by kernel_rfl) (fun _ _ _ h => h) rfl ?_ hHeld ?_
          rotate_left
          · intro w hSw
            try dsimp only at hSw
            go_simp
            all_goals with_reducible rfl
          try simp only [Act.put, List.setIfInBounds_toArray, List.set_cons_zero, List.set_cons_succ]
          refine wpAnyH_takeG (i := 1) (v := ?_) rfl (by kernel_rfl) (by kernel_rfl) (by kernel_rfl) (fun _ _ _ h => h) rfl ?_ hHeld ?_
          rotate_left
          · intro w hSw
            try dsimp only at hSw
            go_simp
            all_goals with_reducible rfl
          try simp only [Act.put, List.setIfInBounds_toArray, List.set_cons_zero, List.set_cons_succ]
          refine wpAnyH_takeG (i := 2) (v := ?_) rfl (by kernel_rfl) (by kernel_rfl) (by kernel_rfl) (fun _ _ _ h => h) rfl ?_ hHeld ?_
          rotate_left
          · intro w hSw
            try dsimp only at hSw
            go_simp
            all_goals with_reducible rfl
          try simp only [Act.put, List.setIfInBounds_toArray, List.set_cons_zero, List.set_cons_succ]
          refine wpAnyH_takeG (i := 3) (v := ?_) rfl (by kernel_rfl) (by kernel_rfl) (by kernel_rfl) (fun _ _ _ h => h) rfl ?_ hHeld ?_
          rotate_left
          · intro w hSw
            try dsimp only at hSw
            go_simp
            all_goals with_reducible rfl
          try simp only [Act.put, List.setIfInBounds_toArray, List.set_cons_zero, List.set_cons_succ]
          refine wpAnyH_takeG (i := 4) (v := ?_) rfl (by kernel_rfl) (by kernel_rfl) (by kernel_rfl) (fun _ _ _ h => h) rfl ?_ hHeld ?_
          rotate_left
          · intro w hSw
            try dsimp only at hSw
            go_simp
            all_goals with_reducible rfl
          try simp only [Act.put, List.setIfInBounds_toArray, List.set_cons_zero, List.set_cons_succ]
          refine wpAnyH_takeG (i := 5) (v := ?_) rfl (by kernel_rfl) (by kernel_rfl) (by kernel_rfl) (fun _ _ _ h => h) rfl ?_ hHeld ?_
          rotate_left
          · intro w hSw
            try dsimp only at hSw
            go_simp
            all_goals with_reducible rfl
          try simp only [Act.put, List.setIfInBounds_toArray, List.set_cons_zero, List.set_cons_succ]
          refine wpAnyH_takeG (i := 6) (v := ?_) rfl (by kernel_rfl) (by kernel_rfl) (by kernel_rfl) (fun _ _ _ h => h) rfl ?_ hHeld ?_
          rotate_left
          · intro w hSw
            try dsimp only at hSw
            go_simp
            all_goals with_reducible rfl
          try simp only [Act.put, List.setIfInBounds_toArray, List.set_cons_zero, List.set_cons_succ]
          refine wpAnyH_takeG (i := 7) (v := ?_) rfl (by kernel_rfl) (by kernel_rfl) (by kernel_rfl) (fun _ _ _ h => h) rfl ?_ hHeld ?_
          rotate_left
          · intro w hSw
            try dsimp only at hSw
            go_simp
            all_goals with_reducible rfl
          try simp only [Act.put, List.setIfInBounds_toArray, List.set_cons_zero, List.set_cons_succ]
          refine wpAnyH_takeG (i := 8) (v := ?_) rfl (by kernel_rfl) (by kernel_rfl) (by kernel_rfl) (fun _ _ _ h => h) rfl ?_ hHeld ?_
          rotate_left
          · intro w hSw
            try dsimp only at hSw
            go_simp
            all_goals with_reducible rfl
          try simp only [Act.put, List.setIfInBounds_toArray, List.set_cons_zero, List.set_cons_succ]
          refine wpAnyH_takeG (i := 9) (v := ?_) rfl (by kernel_rfl) (by kernel_rfl) (by kernel_rfl) (fun _ _ _ h => h) rfl ?_ hHeld ?_
          rotate_left
          · intro w hSw
            try dsimp only at hSw
            go_simp
            all_goals with_reducible rfl
          try simp only [Act.put, List.setIfInBounds_toArray, List.set_cons_zero, List.set_cons_succ]
          refine wpAnyH_takeG (i := 10) (v := ?_) rfl (by kernel_rfl) (by kernel_rfl) (by kernel_rfl) (fun _ _ _ h => h) rfl ?_ hHeld ?_
          rotate_left
          · intro w hSw
            try dsimp only at hSw
            go_simp
            all_goals with_reducible rfl
          try simp only [Act.put, List.setIfInBounds_toArray, List.set_cons_zero, List.set_cons_succ]
          refine wpAnyH_takeG (i := 11) (v := ?_) rfl (by kernel_rfl) (by kernel_rfl) (by kernel_rfl) (fun _ _ _ h => h) rfl ?_ hHeld ?_
          rotate_left
          · intro w hSw
            try dsimp only at hSw
            go_simp
            all_goals with_reducible rfl
          try simp only [Act.put, List.setIfInBounds_toArray, List.set_cons_zero, List.set_cons_succ]
          refine wpAnyH_takeG (i := 12) (v := ?_) rfl (by kernel_rfl) (by kernel_rfl) (by kernel_rfl) (fun _ _ _ h => h) rfl ?_ hHeld ?_
          rotate_left
          · intro w hSw
            try dsimp only at hSw
            go_simp
            all_goals with_reducible rfl
          try simp only [Act.put, List.setIfInBounds_toArray, List.set_cons_zero, List.set_cons_succ]
          refine wpAnyH_takeG (i := 13) (v := ?_) rfl (by kernel_rfl) (by kernel_rfl) (by kernel_rfl) (fun _ _ _ h => h) rfl ?_ hHeld ?_
          rotate_left
          · intro w hSw
            try dsimp only at hSw
            go_simp
            all_goals with_reducible rfl
          try simp only [Act.put, List.setIfInBounds_toArray, List.set_cons_zero, List.set_cons_succ]
          refine wpAnyH_takeG (i := 14) (v := ?_) rfl (by kernel_rfl) (by kernel_rfl) (by kernel_rfl) (fun _ _ _ h => h) rfl ?_ hHeld ?_
          rotate_left
          · intro w hSw
            try dsimp only at hSw
            go_simp
            all_goals with_reducible rfl
          try simp only [Act.put, List.setIfInBounds_toArray, List.set_cons_zero, List.set_cons_succ]
          refine wpAnyH_takeG (i := 15) (v := ?_) rfl (by kernel_rfl) (by kernel_rfl) (by kernel_rfl) (fun _ _ _ h => h) rfl ?_ hHeld ?_
          rotate_left
          · intro w hSw
            try dsimp only at hSw
            go_simp
            all_goals with_reducible rfl
          try simp only [Act.put, List.setIfInBounds_toArray, List.set_cons_zero, List.set_cons_succ]
          refine wpAnyH_takeG (i := 16) (v := ?_) rfl (by kernel_rfl) (by kernel_rfl) (by kernel_rfl) (fun _ _ _ h => h) rfl ?_ hHeld ?_
          rotate_left
          · intro w hSw
            try dsimp only at hSw
            go_simp
            all_goals with_reducible rfl
          try simp only [Act.put, List.setIfInBounds_toArray, List.set_cons_zero, List.set_cons_succ]
          refine wpAnyH_takeG (i := 17) (v := ?_) rfl (by kernel_rfl) (by kernel_rfl) (by kernel_rfl) (fun _ _ _ h => h) rfl ?_ hHeld ?_
          rotate_left
          · intro w hSw
            try dsimp only at hSw
            go_simp
            all_goals with_reducible rfl
          try simp only [Act.put, List.setIfInBounds_toArray, List.set_cons_zero, List.set_cons_succ]
          refine wpAnyH_takeG (i := 18) (v := ?_) rfl (by kernel_rfl) (by kernel_rfl) (by kernel_rfl) (fun _ _ _ h => h) rfl ?_ hHeld ?_
          rotate_left
          · intro w hSw
            try dsimp only at hSw
            go_simp
            all_goals with_reducible rfl
          try simp only [Act.put, List.setIfInBounds_toArray, List.set_cons_zero, List.set_cons_succ]
          refine wpAnyH_takeG (i := 19) (v := ?_) rfl (by kernel_rfl) (by kernel_rfl) (by kernel_rfl) (fun _ _ _ h => h) rfl ?_ hHeld ?_
          rotate_left
          · intro w hSw
            try dsimp only at hSw
            go_simp
            all_goals with_reducible rfl
          try simp only [Act.put, List.setIfInBounds_toArray, List.set_cons_zero, List.set_cons_succ]
          refine wpAnyH_takeG (i := 20) (v := ?_) rfl (by kernel_rfl) (by kernel_rfl) (by kernel_rfl) (fun _ _ _ h => h) rfl ?_ hHeld ?_
          rotate_left
          · intro w hSw
            try dsimp only at hSw
            go_simp
            all_goals with_reducible rfl
          try simp only [Act.put, List.setIfInBounds_toArray, List.set_cons_zero, List.set_cons_succ]
          refine wpAnyH_takeG (i := 21) (v := ?_) rfl (by kernel_rfl) (by kernel_rfl) (by kernel_rfl) (fun _ _ _ h => h) rfl ?_ hHeld ?_
          rotate_left
          · intro w hSw
            try dsimp only at hSw
            go_simp
            all_goals with_reducible rfl
          try simp only [Act.put, List.setIfInBounds_toArray, List.set_cons_zero, List.set_cons_succ]
          refine wpAnyH_takeG (i := 22) (v := ?_) rfl (by kernel_rfl) (by kernel_rfl) (by kernel_rfl) (fun _ _ _ h => h) rfl ?_ hHeld ?_
          rotate_left
          · intro w hSw
            try dsimp only at hSw
            go_simp
            all_goals with_reducible rfl
          try simp only [Act.put, List.setIfInBounds_toArray, List.set_cons_zero, List.set_cons_succ]
          refine wpAnyH_takeG (i := 23) (v := ?_) rfl (by kernel_rfl) (by kernel_rfl) (by kernel_rfl) (fun _ _ _ h => h) rfl ?_ hHeld ?_
          rotate_left
          · intro w hSw
            try dsimp only at hSw
            go_simp
            all_goals with_reducible rfl
          try simp only [Act.put, List.setIfInBounds_toArray, List.set_cons_zero, List.set_cons_succ]
          refine wpAnyH_takeG (i := 24) (v := ?_) rfl (by kernel_rfl) (by kernel_rfl) (by kernel_rfl) (fun _ _ _ h => h) rfl ?_ hHeld ?_
          rotate_left
          · intro w hSw
            try dsimp only at hSw
            go_simp
            all_goals with_reducible rfl
          try simp only [Act.put, List.setIfInBounds_toArray, List.set_cons_zero, List.set_cons_succ]
          refine wpAnyH_takeG (i := 25) (v := ?_) rfl (by kernel_rfl) (by kernel_rfl) (by kernel_rfl) (fun _ _ _ h => h) rfl ?_ hHeld ?_
          rotate_left
          · intro w hSw
            try dsimp only at hSw
            go_simp
            all_goals with_reducible rfl
          try simp only [Act.put, List.setIfInBounds_toArray, List.set_cons_zero, List.set_cons_succ]
          refine wpAnyH_takeG (i := 26) (v := ?_) rfl (by kernel_rfl) (by kernel_rfl) (by kernel_rfl) (fun _ _ _ h => h) rfl ?_ hHeld ?_
          rotate_left
          · intro w hSw
            try dsimp only at hSw
            go_simp
            all_goals with_reducible rfl
          try simp only [Act.put, List.setIfInBounds_toArray, List.set_cons_zero, List.set_cons_succ]
          refine wpAnyH_takeG (i := 27) (v := ?_) rfl (by kernel_rfl) (by kernel_rfl) (by kernel_rfl) (fun _ _ _ h => h) rfl ?_ hHeld ?_
          rotate_left
          · intro w hSw
            try dsimp only at hSw
            go_simp
            all_goals with_reducible rfl
          try simp only [Act.put, List.setIfInBounds_toArray, List.set_cons_zero, List.set_cons_succ]
          refine wpAnyH_takeG (i := 28) (v := ?_) rfl (by kernel_rfl) (by kernel_rfl) (by kernel_rfl) (fun _ _ _ h => h) rfl ?_ hHeld ?_
          rotate_left
          · intro w hSw
            try dsimp only at hSw
            go_simp
            all_goals with_reducible rfl
          try simp only [Act.put, List.setIfInBounds_toArray, List.set_cons_zero, List.set_cons_succ]
          refine wpAnyH_takeG (i := 29) (v := ?_) rfl (by kernel_rfl) (by kernel_rfl) (by kernel_rfl) (fun _ _ _ h => h) rfl ?_ hHeld ?_
          rotate_left
          · intro w hSw
            try dsimp only at hSw
            go_simp
            all_goals with_reducible rfl
          try simp only [Act.put, List.setIfInBounds_toArray, List.set_cons_zero, List.set_cons_succ]
          refine wpAnyH_done (by kernel_rfl) ?_ _
          clear hHeld t0 t1 x0 g1 g3
          obtain ⟨wz, hwz⟩ : ∃ wz, wz = w9.drew.drew := ⟨_, rfl⟩
          have bz1 : wz.cell? ⟨bi, q, none⟩ = some (.bool false) := by rw [hwz]; exact b1
          have bz2 : wz.cell? ⟨bo, o, none⟩ = some (.bool false) := by rw [hwz]; exact b2
          have gz0 : wz.cell? ⟨mb, 0, none⟩ = some (.int .i64 q) := by rw [hwz]; exact g0
          have gz2 : wz.cell? ⟨mb, 2, none⟩ = some (.int .i64 o) := by rw [hwz]; exact g2
          have MKZ : Hid (MkB W P bi bo fi fo wz) := Lib.hid (by rw [hwz]; exact MKA.out.below (Qt.refl _).drew.bel)
          have MBZ : Hid (Blk wz mb 34 (mvC ⟨q, c, o⟩)) := Lib.hid (by rw [hwz]; exact MBA.out)
          rw [← hwz]
          have fz1 : wz.frozen? ⟨bi, q, none⟩ = false := MKZ.out.1.free q
          have fz2 : wz.frozen? ⟨bo, o, none⟩ = false := MKZ.out.2.1.free o
          have hne : bi ≠ bo := MKZ.out.2.2.1
          have FN : Hid (OnIn W P bi bo mv (k + 1) ((wz.drew.setCell ⟨bi, q, none⟩ (.bool true)).setCell ⟨bo, o, none⟩ (.bool true))) := Lib.hid (OnIn.mark (((MKZ.out.below (Qt.refl wz).drew.bel).setI hqP).setO hoP) HMM.out E1.out HI.out HO.out)
          have NZ := NB.out
          clear b1 b2 g0 g2 hwz MKA MBA
          go_upto_region 13 with (fail)
          refine wp_region_lastH (fun wx => wx.cell? ⟨mb, 0, none⟩ = some (.int .i64 q) ∧ wx.cell? ⟨mb, 2, none⟩ = some (.int .i64 o)) 9 10 (by kernel_rfl) (by kernel_rfl) rfl rfl ?_ (fun hHeld => ?_)
          · (exact ⟨gz0, gz2⟩)
          simp only [nopFor, List.set_cons_succ, List.set_cons_zero]
          refine wpAnyH_takeL (i := 0) (v := ?_) rfl (by kernel_rfl) (by kernel_rfl) (by kernel_rfl) (fun _ _ _ h => h) rfl ?_ hHeld ?_
          rotate_left
          · intro w hSw
            try dsimp only at hSw
            go_simp
            all_goals with_reducible rfl
          try simp only [Act.put, List.setIfInBounds_toArray, List.set_cons_zero, List.set_cons_succ]
          refine wpAnyH_takeL (i := 1) (v := ?_) rfl (by kernel_rfl) (by kernel_rfl) (by kernel_rfl) (fun _ _ _ h => h) rfl ?_ hHeld ?_
          rotate_left
          · intro w hSw
            try dsimp only at hSw
            go_simp
            all_goals with_reducible rfl
          try simp only [Act.put, List.setIfInBounds_toArray, List.set_cons_zero, List.set_cons_succ]
          refine wpAnyH_takeL (i := 2) (v := ?_) rfl (by kernel_rfl) (by kernel_rfl) (by kernel_rfl) (fun _ _ _ h => h) rfl ?_ hHeld ?_
          rotate_left
          · intro w hSw
            try dsimp only at hSw
            go_simp
            all_goals with_reducible rfl
          try simp only [Act.put, List.setIfInBounds_toArray, List.set_cons_zero, List.set_cons_succ]
          refine wpAnyH_takeL (i := 3) (v := ?_) rfl (by kernel_rfl) (by kernel_rfl) (by kernel_rfl) (fun _ _ _ h => h) rfl ?_ hHeld ?_
          rotate_left
          · intro w hSw
            try dsimp only at hSw
            go_simp
            all_goals with_reducible rfl
          try simp only [Act.put, List.setIfInBounds_toArray, List.set_cons_zero, List.set_cons_succ]
          refine wpAnyH_takeL (i := 4) (v := ?_) rfl (by kernel_rfl) (by kernel_rfl) (by kernel_rfl) (fun _ _ _ h => h) rfl ?_ hHeld ?_
          rotate_left
          · intro w hSw
            try dsimp only at hSw
            go_simp
            all_goals with_reducible rfl
          try simp only [Act.put, List.setIfInBounds_toArray, List.set_cons_zero, List.set_cons_succ]
          refine wpAnyH_takeL (i := 5) (v := ?_) rfl (by kernel_rfl) (by kernel_rfl) (by kernel_rfl) (fun _ _ _ h => h) rfl ?_ hHeld ?_
          rotate_left
          · intro w hSw
            try dsimp only at hSw
            go_simp
            all_goals with_reducible rfl
          try simp only [Act.put, List.setIfInBounds_toArray, List.set_cons_zero, List.set_cons_succ]
          refine wpAnyH_takeL (i := 6) (v := ?_) rfl (by kernel_rfl) (by kernel_rfl) (by kernel_rfl) (fun _ _ _ h => h) rfl ?_ hHeld ?_
          rotate_left
          · intro w hSw
            try dsimp only at hSw
            go_simp
            all_goals with_reducible rfl
          try simp only [Act.put, List.setIfInBounds_toArray, List.set_cons_zero, List.set_cons_succ]
          refine wpAnyH_step (i := 7) (by kernel_rfl) rfl (fun KK hK => ?_)
          (go_simp)
          refine hK.out _ _ ?_ (fun hHeld => ?_)
          · (exact (fun h => ⟨Blk.cell h (i := 0) rfl, Blk.cell h (i := 2) rfl⟩) (Blk.setO (a := ⟨bi, q, none⟩) MBZ.out (.bool true) NB.out.1))
          clear hK KK
          try simp only [Act.put, List.setIfInBounds_toArray, List.set_cons_zero, List.set_cons_succ]
          refine wpAnyH_takeL (i := 8) (v := ?_) rfl (by kernel_rfl) (by kernel_rfl) (by kernel_rfl) (fun _ _ _ h => h) rfl ?_ hHeld ?_
          rotate_left
          · intro w hSw
            try dsimp only at hSw
            go_simp
            all_goals with_reducible rfl
          try simp only [Act.put, List.setIfInBounds_toArray, List.set_cons_zero, List.set_cons_succ]
          refine wpAnyH_takeL (i := 9) (v := ?_) rfl (by kernel_rfl) (by kernel_rfl) (by kernel_rfl) (fun _ _ _ h => h) rfl ?_ hHeld ?_
          rotate_left
          · intro w hSw
            try dsimp only at hSw
            go_simp
            all_goals with_reducible rfl
          try simp only [Act.put, List.setIfInBounds_toArray, List.set_cons_zero, List.set_cons_succ]
          refine wpAnyH_done (by kernel_rfl) ?_ _
          rw [LastQ_normal]
          clear hHeld
          go_wp2_with fail
          go_roundw
          case rel => exact ⟨k + 1, by omega, by go_num, FN.out⟩
          case measure => simp [intOf]; omega
      · obtain rfl : k = n := by omega
        have b1 := MK.out.2.2.2.2.2
        go_wp2_with fail
        go_ret
        exact ⟨rfl, b1⟩
end Go.Proofs.Ytkooihniieepcaa
