/-
  switchbox: Arrive.
-/
import Derived.Test.YtkooihniieepcaaSwB
import Derived.Test.YtkooihniieepcaaLast
namespace Go.Proofs.Ytkooihniieepcaa
open Go.RowKit
set_option linter.unusedVariables false

section
variable {w w' : World} {base P K : Nat} {L : Loc} {M : Md}
/-- The queue and the giver's counters of a class have changed. -/
def mdQ (M : Md) (p c : Nat) (l : List Fr) (x : I3) : Md := { M with q := upd2 M.q p c l, gv := upd2 M.gv p c x }
def locQ (L : Loc) (p c : Nat) (v : Value) : Loc := { L with q := upd2 L.q p c v }
theorem MdOk.setQ (h : MdOk P K M) {p c : Nat} (hp : p < P) (hc : c < K) {l : List Fr} {x : I3} (hx : GOk x) (hb : x.b ≤ 1000) (hl : (l.length : Int) = x.b - x.c) (hm : l.length ≤ 64) : MdOk P K (mdQ M p c l x) := by
  refine ⟨h.p1, h.p8, h.k1, h.k8, fun i hi j hj => ?_, fun i hi j hj => ?_, h.tk, fun i hi j hj => ?_, fun i hi j hj => ?_, h.ptr, h.g, h.a⟩
  · show GOk (upd2 M.gv p c x i j)
    by_cases e : i = p ∧ j = c
    · rw [e.1, e.2, upd2_same]; exact hx
    · rw [upd2_ne _ _ e]; exact h.gv i hi j hj
  · show (upd2 M.gv p c x i j).b ≤ 1000
    by_cases e : i = p ∧ j = c
    · rw [e.1, e.2, upd2_same]; exact hb
    · rw [upd2_ne _ _ e]; exact h.gb i hi j hj
  · show ((upd2 M.q p c l i j).length : Int) = (upd2 M.gv p c x i j).b - (upd2 M.gv p c x i j).c
    by_cases e : i = p ∧ j = c
    · rw [e.1, e.2, upd2_same, upd2_same]; exact hl
    · rw [upd2_ne _ _ e, upd2_ne _ _ e]; exact h.ql i hi j hj
  · show (upd2 M.q p c l i j).length ≤ 64
    by_cases e : i = p ∧ j = c
    · rw [e.1, e.2, upd2_same]; exact hm
    · rw [upd2_ne _ _ e]; exact h.qm i hi j hj
/-- The giver's counters alone, the memory of the rest. -/
theorem St.setG (h : St w base (conf P K L M)) {p c : Nat} (hp : p < P) (hc : c < K) {x : I3} (ht : GAt w' base (L.gv p c) (L.gc p c) [x]) (u : Upd (fun k => k = L.gc p c) w w') : St w' base (conf P K L { M with gv := upd2 M.gv p c x }) := by
  have hr : conf P K L M (.gc p c) = some (.blk (L.gc p c) 100 (cs3 [M.gv p c])) := if_pos ⟨hp, hc⟩
  exact (h.put (.gc p c) (.blk (L.gc p c) 100 (cs3 [x])) u (fun k hk _ => ⟨_, hr, by rw [hk]; rfl⟩) ⟨ht.hc, ht.b2⟩ (fun k hk => .inl ⟨_, hr, hk⟩)).congr (conf_gc P K L M p c x hp hc)
theorem St.cQ (h : St w base (conf P K L M)) (h8 : P ≤ 8) {p : Nat} (hp : p < P) : w.cell? ⟨L.bb, 2 + p, none⟩ = some (.slice (some ⟨L.qr p, 0, none⟩) K K) := by
  have hb : Fun w L.bb 73 36 (boxF P K L M.ptr) := h.blk (r := .box) rfl
  rw [hb.cell (j := 2 + p) (by omega)]
  unfold boxF
  rw [if_neg (by omega), if_neg (by omega), if_pos (by omega), Nat.add_sub_cancel_left, if_pos hp]
theorem St.rQ (h : St w base (conf P K L M)) {p : Nat} (hp : p < P) : Fun w (L.qr p) 30 K (L.q p) := h.blk (r := .qr p) (if_pos hp)
theorem St.qF (h : St w base (conf P K L M)) {p c : Nat} (hp : p < P) (hc : c < K) : w.ownsRow base 39 6 (L.q p c) (M.q p c).length (flC frC (M.q p c)) := h.row (r := .qf p c) (if_pos ⟨hp, hc⟩)
/-- Behind Receive: the counters have changed, the parameter lies in block pb. -/
structure ArMid (w0 : World) (base P K : Nat) (L : Loc) (M : Md) (p c pb : Nat) (x : I3) (f : Fr) (w : World) : Prop where
  st : St w base (conf P K L { M with gv := upd2 M.gv p c x })
  u : Upd (fun k => k = L.gc p c) w0 w
  pb_ : Blk w pb 39 (frC f)
theorem ArMid.below {w0 : World} {p c pb : Nat} {x : I3} {f : Fr} (h : ArMid w0 base P K L M p c pb x f w) (q : Below w.heap.size w w') : ArMid w0 base P K L M p c pb x f w' := ⟨h.st.below q, Upd.then h.u (Upd.of_below q) (fun _ _ h => h), h.pb_.upd (Upd.of_below (S := fun _ => False) q) id⟩
/-- Behind append: the queue's row has grown, the box's row of queues still holds the old slice. -/
structure ArApp (w0 : World) (base P K : Nat) (L : Loc) (M : Md) (p c pb : Nat) (x : I3) (f : Fr) (v : Value) (l : List Fr) (w : World) : Prop where
  st : St w base (setC (conf P K L { M with gv := upd2 M.gv p c x }) (.qf p c) (.row v 39 6 l.length (flC frC l)))
  u : Upd (fun k => k = L.gc p c ∨ (L.q p c).ownBlock = some k) w0 w
  v0 : ∀ k, v.ownBlock = some k → (L.q p c).ownBlock = some k ∨ w0.heap.size ≤ k
  pb_ : Blk w pb 39 (frC f)
theorem ArApp.below {w0 : World} {p c pb : Nat} {x : I3} {f : Fr} {v : Value} {l : List Fr} (h : ArApp w0 base P K L M p c pb x f v l w) (q : Below w.heap.size w w') : ArApp w0 base P K L M p c pb x f v l w' := ⟨h.st.below q, Upd.then h.u (Upd.of_below q) (fun _ _ h => h), h.v0, h.pb_.upd (Upd.of_below (S := fun _ => False) q) id⟩
theorem ArMid.app {w0 w1 w2 : World} {p c pb : Nat} {x : I3} {f : Fr} {v : Value} {l : List Fr} (h : ArMid w0 base P K L M p c pb x f w) (hp : p < P) (hc : c < K) (q : Below w.heap.size w w1) (ho : w2.ownsRow base 39 6 v l.length (flC frC l)) (gr : w1.grownBy w2 (L.q p c).ownBlock)
    (hv : v.ownBlock = (L.q p c).ownBlock ∨ v.ownBlock = some w1.heap.size) (hpb : (L.q p c).ownBlock ≠ some pb) : ArApp w0 base P K L M p c pb x f v l w2 := by
  have h1 := h.st.below q
  have hr : conf P K L { M with gv := upd2 M.gv p c x } (.qf p c) = some (.row (L.q p c) 39 6 (M.q p c).length (flC frC (M.q p c))) := if_pos ⟨hp, hc⟩
  have u := Upd.of_grownV gr
  have s1 := q.size
  have s0 := h.u.size
  refine ⟨h1.put (.qf p c) _ u (fun k hk _ => ⟨_, hr, hk⟩) ho (fun k hk => ?_), Upd.then (Upd.then (h.u.mono fun k _ hk => .inl hk) (Upd.of_below (S := fun _ => False) q) (fun _ _ h => h.elim)) u (fun k _ hk => .inr hk), fun k hk => ?_, (h.pb_.upd (Upd.of_below (S := fun _ => False) q) id).upd u hpb⟩
  · rcases hv with e | e
    · exact .inl ⟨_, hr, show (L.q p c).ownBlock = some k from e ▸ hk⟩
    · right
      have : some w1.heap.size = some k := by rw [← e]; exact hk
      cases this
      exact Nat.le_refl _
  · rcases hv with e | e
    · exact .inl (by rw [← e]; exact hk)
    · right
      rw [e] at hk
      cases hk
      omega
theorem ArApp.y {w0 : World} {p c pb : Nat} {x : I3} {f : Fr} {v : Value} {l : List Fr} (h : ArApp w0 base P K L M p c pb x f v l w) (h8 : P ≤ 8) (hp : p < P) (hc : c < K) : w.cell? ⟨L.bb, 2 + p, none⟩ = some (.slice (some ⟨L.qr p, 0, none⟩) K K) ∧ w.cell? ⟨L.qr p, c, none⟩ = some (L.q p c) ∧ w.frozen? ⟨L.qr p, c, none⟩ = false := by
  have hb : Fun w L.bb 73 36 (boxF P K L M.ptr) := h.st.blk (r := .box) (by rw [setC_ne _ _ (by intro e; cases e)]; rfl)
  have hq : Fun w (L.qr p) 30 K (L.q p) := h.st.blk (r := .qr p) (by rw [setC_ne _ _ (by intro e; cases e)]; exact if_pos hp)
  refine ⟨?_, hq.cell hc, hq.free c⟩
  rw [hb.cell (j := 2 + p) (by omega)]
  unfold boxF
  rw [if_neg (by omega), if_neg (by omega), if_pos (by omega), Nat.add_sub_cancel_left, if_pos hp]
/-- The store of the new slice. -/
theorem ArApp.fin {w0 : World} {p c pb : Nat} {x : I3} {f : Fr} {v : Value} {l : List Fr} (h : ArApp w0 base P K L M p c pb x f v l w) (H0 : BoxAt w0 base P K L M) (hp : p < P) (hc : c < K) (hx : GOk x) (hb : x.b ≤ 1000) (hl : (l.length : Int) = x.b - x.c) (hm : l.length ≤ 64) : BxPost w0 base P K L M (locQ L p c v) (mdQ M p c l x) (w.setCell ⟨L.qr p, c, none⟩ v) := by
  have hr : conf P K L { M with gv := upd2 M.gv p c x } (.qr p) = some (.blk (L.qr p) 30 ((List.range K).map (L.q p))) := if_pos hp
  have hq0 : conf P K L M (.qf p c) = some (.row (L.q p c) 39 6 (M.q p c).length (flC frC (M.q p c))) := if_pos ⟨hp, hc⟩
  have hg0 : conf P K L M (.gc p c) = some (.blk (L.gc p c) 100 (cs3 [M.gv p c])) := if_pos ⟨hp, hc⟩
  have hr0 : conf P K L M (.qr p) = some (.blk (L.qr p) 30 ((List.range K).map (L.q p))) := if_pos hp
  have s1 := h.st.store (r := .qr p) (k := L.qr p) (T := 30) (l := (List.range K).map (L.q p)) (i := c) (v := v) (l' := (List.range K).map (Bar.upd (L.q p) c v)) (by rw [setC_ne _ _ (by intro e; cases e)]; exact hr) (Bar.range_upd _ _ hc).symm
  have e := conf_qr P K L { M with gv := upd2 M.gv p c x } p c v l hp hc
  refine ⟨⟨s1.congr e, H0.ok.setQ hp hc hx hb hl hm⟩, (h.u.mono fun k _ hk => ?_).setCell ⟨L.qr p, c, none⟩ v fun _ => ⟨_, _, hr0, rfl⟩, fun k hk => ?_⟩
  · rcases hk with hk | hk
    · exact ⟨_, _, hg0, by rw [hk]; rfl⟩
    · exact ⟨_, _, hq0, hk⟩
  · rcases ftC_set (ftC_congr e hk) with hk | hk
    · rcases ftC_set hk with hk | hk
      · left
        obtain ⟨r, q, h1, h2⟩ := hk
        by_cases er : r = .gc p c
        · subst er
          have h3 : conf P K L { M with gv := upd2 M.gv p c x } (.gc p c) = some (.blk (L.gc p c) 100 (cs3 [upd2 M.gv p c x p c])) := if_pos ⟨hp, hc⟩
          rw [h3] at h1
          cases h1
          exact ⟨_, _, hg0, h2⟩
        · have h3 := conf_gc P K L M p c x hp hc r
          rw [setC_ne _ _ er] at h3
          exact ⟨r, q, h3.trans h1, h2⟩
      · rcases h.v0 k hk with e1 | e1
        · exact .inl ⟨_, _, hq0, e1⟩
        · exact .inr e1
    · exact .inl ⟨_, _, hr0, hk⟩
theorem rec_gok {x : I3} (h : GOk x) (hr : x.b < x.a + x.c) : GOk (recX x) ∧ (recX x).b = x.b + 1 ∧ (recX x).c = x.c ∧ (recX x).a = x.a := by
  unfold recX
  rw [if_neg (by omega)]
  refine ⟨⟨h.h1, h.h2, h.h3, ?_, ?_, h.h6⟩, rfl, rfl, rfl⟩
  · show x.c ≤ x.b + 1
    have := h.h4; omega
  · show x.b + 1 ≤ x.a + x.c
    omega
set_option maxHeartbeats 4000000 in
set_option maxRecDepth 100000 in
theorem arrive_yes (p c : Nat) (f : Fr) (hf : f.cls = (c : Int)) (h : BoxAt w base P K L M) (hp : p < P) (hc : c < K) (hroom : (M.gv p c).b < (M.gv p c).a + (M.gv p c).c) (hb : (M.gv p c).b < 1000) (hbase : base ≤ w.heap.size) :
    Calls Try.prog 16 #[.pointer (some ⟨L.bb, 0, none⟩), .int .i64 p, frV f] w fun e w' =>
    ∃ v, e = .returned (.int .i64 0) ∧ BxPost w base P K L M (locQ L p c v) (mdQ M p c (M.q p c ++ [f]) (recX (M.gv p c))) w' := by
  obtain ⟨fid, ffr, fds, fcl, fep⟩ := f
  obtain rfl : fcl = (c : Int) := hf
  obtain ⟨f, hfe⟩ : ∃ f : Fr, f = ⟨fid, ffr, fds, (c : Int), fep⟩ := ⟨_, rfl⟩
  obtain ⟨wa, hwa, B1, PB⟩ : ∃ wa, w.alloc (.cells #[.int .i64 fid, .int .i64 ffr, .int .i64 fds, .int .i64 (c : Int), .int .i64 fep, .slice none 0 0] 39) = wa ∧ Hid (Below w.heap.size w wa) ∧ Hid (Blk wa w.heap.size 39 (frC f)) :=
    ⟨_, rfl, (Below.refl _ _).alloc (Nat.le_refl _) _, by rw [hfe]; exact Blk.new w _ (frC ⟨fid, ffr, fds, (c : Int), fep⟩)⟩
  have h1 := h.below B1.out
  have H1 := Lib.hid h1
  have HY := Lib.hid (has_yes p c h1 hp hc)
  have hE : recE (M.gv p c) = 0 := by unfold recE; rw [if_neg (by omega)]
  have RC : Hid (∀ w', BoxAt w' base P K L M → Calls Try.prog 34 #[.pointer (some ⟨L.gv p c, 0, none⟩), .int .i64 0] w' (GPost w' base (L.gv p c) (L.gc p c) [M.gv p c] 0 (recX (M.gv p c)) (.int .i64 0))) := fun w' hw => by
    have := rec_ok w' base _ _ 0 _ _ (hw.giver hp hc) rfl (hw.ok.gv p hp c hc) (by simp)
    rw [hE] at this
    exact this
  obtain ⟨g, m, q0, q1⟩ := h1.wG hp hc
  have h8 := h.ok.p8
  have p0 : (0 : Int) ≤ (p : Int) := by omega
  have p1 : (p : Int) < 8 := by omega
  have p2 : (0 : Int) ≤ (c : Int) := by omega
  have p3 : (c : Int) < (K : Int) := by omega
  have d3 : wa.cell? ⟨w.heap.size, 3, none⟩ = some (.int .i64 (c : Int)) := PB.out.cell (i := 3) (by rw [hfe]; rfl)
  have HWA := Lib.hid hwa; have HFE := Lib.hid hfe
  rw [← hfe]
  have HP : Hid (recX (M.gv p c) = recX (M.gv p c)) := rfl
  obtain ⟨gk1, gk2, gk3, gk4⟩ := rec_gok (h.ok.gv p hp c hc) hroom
  have hga := (h.ok.gv p hp c hc).h2
  have hql := h.ok.ql p hp c hc
  have FIN : Hid (∀ (w7 : World) (v : Value), ArApp wa base P K L M p c w.heap.size (recX (M.gv p c)) f v (M.q p c ++ [f]) w7 → BxPost wa base P K L M (locQ L p c v) (mdQ M p c (M.q p c ++ [f]) (recX (M.gv p c))) (w7.setCell ⟨L.qr p, c, none⟩ v)) := fun w7 v ha =>
    ha.fin h1 hp hc gk1 (by rw [gk2]; omega) (by rw [List.length_append, gk2, gk3]; simp; omega) (by rw [List.length_append]; simp; omega)
  clear gk1 gk2 gk3 gk4 hga hql HP
  rw [hfe]
  unfold frV
  clear h1 hE hfe hwa
  go_enter Try.func16, Try.ntmps16
  go_upto_region 3 with (fail)
  rw [HWA.out]
  go_wp2_with fail
  refine HY.out.mono ?_
  rintro e w1 ⟨rfl, rfl⟩
  go_upto_region 5 with (fail)
  go_cut [7] (fun ev wx => ev = .int .i64 0 ∧ ArMid wa base P K L M p c w.heap.size (recX (M.gv p c)) f wx)
  case first =>
    have MK : Hid (∀ w5 wb : World, Below wa.heap.size wa wb → GAt w5 base (L.gv p c) (L.gc p c) ([M.gv p c].set 0 (recX (M.gv p c))) → Upd (fun k => k = L.gc p c) wb w5 → ArMid wa base P K L M p c w.heap.size (recX (M.gv p c)) f w5) := fun w5 wb hq hg hu =>
      ⟨(H1.out.below hq).st.setG hp hc hg hu, Upd.then (Upd.of_below hq) hu (fun _ _ h => h), (PB.out.upd (Upd.of_below (S := fun _ => False) hq) id).upd hu (fun e => by
        have h1 := PB.out.lt
        have h2 := H1.out.giver hp hc
        have h3 := h.giver hp hc
        have := h3.hc.lt
        omega)⟩
    go_region_law (first | (go_simp; go_at_call 34; refine (RC.out _ (by first | exact H1.out | exact H1.out.below (Qt.refl _).drew.bel)).mono ?_; rintro e w5 ⟨rfl, hg, hu⟩; have A5 := Lib.hid (MK.out _ _ (by first | exact Below.refl _ _ | exact (Qt.refl _).drew.bel) hg hu); clear hg hu))
    all_goals
      go_wp2_with fail
      go_meet
      exact ⟨rfl, by first | exact A5.out | exact A5.out.below (Qt.refl _).drew.bel⟩
  case rest =>
    clear q0 q1 d3 RC
    obtain ⟨rfl, hA⟩ := hcut
    have AA := Lib.hid hA
    clear hA
    obtain ⟨qa, qc, hq, _⟩ := own_shape (AA.out.st.qF hp hc)
    have HQE := Lib.hid hq
    have hl64 : (M.q p c).length ≤ 64 := h.ok.qm p hp c hc
    obtain ⟨i1, hi, hz0, hz1, hz2⟩ := info_parts Try.infoFr
    have JI := Lib.hid hi; have JZ0 := Lib.hid hz0; have JZ1 := Lib.hid hz1; have JZ2 := Lib.hid hz2
    have FX : Hid (∀ wx, ArMid wa base P K L M p c w.heap.size (recX (M.gv p c)) f wx → wx.cell? ⟨L.bb, 2 + p, none⟩ = some (.slice (some ⟨L.qr p, 0, none⟩) K K) ∧ wx.cell? ⟨L.qr p, c, none⟩ = some (.slice qa (M.q p c).length qc) ∧ wx.frozen? ⟨L.qr p, c, none⟩ = false ∧
        wx.cell? ⟨w.heap.size, 0, none⟩ = some (.int .i64 fid) ∧ wx.cell? ⟨w.heap.size, 1, none⟩ = some (.int .i64 ffr) ∧ wx.cell? ⟨w.heap.size, 2, none⟩ = some (.int .i64 fds) ∧ wx.cell? ⟨w.heap.size, 3, none⟩ = some (.int .i64 c) ∧ wx.cell? ⟨w.heap.size, 4, none⟩ = some (.int .i64 fep) ∧ wx.cell? ⟨w.heap.size, 5, none⟩ = some (.slice none 0 0)) := fun wx hx => by
      have hpb := hx.pb_
      rw [HFE.out] at hpb
      refine ⟨hx.st.cQ h8 hp, ?_, (hx.st.rQ hp).free c, hpb.cell (i := 0) rfl, hpb.cell (i := 1) rfl, hpb.cell (i := 2) rfl, hpb.cell (i := 3) rfl, hpb.cell (i := 4) rfl, hpb.cell (i := 5) rfl⟩
      rw [(hx.st.rQ hp).cell hc]
      exact congrArg some hq
    have CP := Lib.hid (fun w => copied_any ⟨fid, ffr, fds, (c : Int), fep⟩ w)
    unfold frV at CP
    have NW : Hid (∀ w5, ArMid wa base P K L M p c w.heap.size (recX (M.gv p c)) f w5 →
        (w5.alloc (.cells #[.int .i64 fid, .int .i64 ffr, .int .i64 fds, .int .i64 (c : Int), .int .i64 fep, .slice none 0 0] 39)).ownsRow base 39 6 (.slice qa (M.q p c).length qc) (M.q p c).length (flC frC (M.q p c)) ∧
        (∀ j u, (frC f)[j]? = some u → okAd (some ⟨w5.heap.size, 0, none⟩) = true ∧ (w5.alloc (.cells #[.int .i64 fid, .int .i64 ffr, .int .i64 fds, .int .i64 (c : Int), .int .i64 fep, .slice none 0 0] 39)).cell? (adr (some ⟨w5.heap.size, 0, none⟩) j) = some u) ∧ base ≤ w5.heap.size) := fun w5 h5 => by
      refine ⟨?_, fun j u hj => ⟨rfl, ?_⟩, ?_⟩
      · have h6 := h5.st.qF hp hc
        rw [hq] at h6
        exact own_upd h6 (Upd.of_below (S := fun _ => False) ((Below.refl _ w5).alloc (Nat.le_refl _) _)) (fun _ _ => id)
      · rw [adr_mk, Nat.zero_add]
        rw [HFE.out] at hj
        exact (Blk.new w5 39 (frC ⟨fid, ffr, fds, (c : Int), fep⟩)).cell hj
      · have := h5.u.size; have := B1.out.size; omega
    have APP : Hid (∀ w5 w7 v', ArMid wa base P K L M p c w.heap.size (recX (M.gv p c)) f w5 → w7.ownsRow base 39 6 v' ((M.q p c).length + 1) (flC frC (M.q p c) ++ frC f) →
        (w5.alloc (.cells #[.int .i64 fid, .int .i64 ffr, .int .i64 fds, .int .i64 (c : Int), .int .i64 fep, .slice none 0 0] 39)).grownBy w7 (Value.slice qa (M.q p c).length qc).ownBlock →
        (v'.ownBlock = (Value.slice qa (M.q p c).length qc).ownBlock ∨ v'.ownBlock = some (w5.alloc (.cells #[.int .i64 fid, .int .i64 ffr, .int .i64 fds, .int .i64 (c : Int), .int .i64 fep, .slice none 0 0] 39)).heap.size) →
        ArApp wa base P K L M p c w.heap.size (recX (M.gv p c)) f v' (M.q p c ++ [f]) w7) := fun w5 w7 v' h5 h6 h7 h8 => by
      rw [← hq] at h7 h8
      refine h5.app hp hc ((Below.refl _ w5).alloc (Nat.le_refl _) _) ?_ h7 h8 (fun e => by
        have := (own_lt (h.queue hp hc) e).1
        omega)
      rw [List.length_append, flC_append, flC_one]
      exact h6
    have ONE := Lib.hid (frC_one f)
    have YY : Hid (∀ wx v', ArApp wa base P K L M p c w.heap.size (recX (M.gv p c)) f v' (M.q p c ++ [f]) wx → wx.cell? ⟨L.bb, 2 + p, none⟩ = some (.slice (some ⟨L.qr p, 0, none⟩) K K) ∧ wx.cell? ⟨L.qr p, c, none⟩ = some (.slice qa (M.q p c).length qc) ∧ wx.frozen? ⟨L.qr p, c, none⟩ = false ∧
        wx.cell? ⟨w.heap.size, 0, none⟩ = some (.int .i64 fid) ∧ wx.cell? ⟨w.heap.size, 1, none⟩ = some (.int .i64 ffr) ∧ wx.cell? ⟨w.heap.size, 2, none⟩ = some (.int .i64 fds) ∧ wx.cell? ⟨w.heap.size, 3, none⟩ = some (.int .i64 c) ∧ wx.cell? ⟨w.heap.size, 4, none⟩ = some (.int .i64 fep) ∧ wx.cell? ⟨w.heap.size, 5, none⟩ = some (.slice none 0 0)) := fun wx v' hx => by
      obtain ⟨z0, z1, z2⟩ := hx.y h8 hp hc
      rw [hq] at z1
      have hpb := hx.pb_
      rw [HFE.out] at hpb
      exact ⟨z0, z1, z2, hpb.cell (i := 0) rfl, hpb.cell (i := 1) rfl, hpb.cell (i := 2) rfl, hpb.cell (i := 3) rfl, hpb.cell (i := 4) rfl, hpb.cell (i := 5) rfl⟩
    have NL : Hid (∀ w5, ArMid wa base P K L M p c w.heap.size (recX (M.gv p c)) f w5 → L.qr p < w5.heap.size ∧ L.bb < w5.heap.size ∧ w.heap.size < w5.heap.size) := fun w5 h5 => by
      have h6 := (h5.st.rQ hp).lt
      have h7 : L.bb < w5.heap.size := Blk.lt (h5.st.blk (r := .box) rfl)
      exact ⟨h6, h7, h5.pb_.lt⟩
    clear hq
    obtain ⟨y0, y1, y2, y3, y4, y5, y6, y7, y8⟩ := FX.out _ AA.out
    generalize (M.q p c).length = n at *
    go_upto_region 9 with (fail)
    refine wp_region_lastH (fun wx => wx.cell? ⟨L.bb, 2 + p, none⟩ = some (.slice (some ⟨L.qr p, 0, none⟩) K K) ∧ wx.cell? ⟨L.qr p, c, none⟩ = some (.slice qa n qc) ∧ wx.frozen? ⟨L.qr p, c, none⟩ = false ∧ wx.cell? ⟨w.heap.size, 0, none⟩ = some (.int .i64 fid) ∧ wx.cell? ⟨w.heap.size, 1, none⟩ = some (.int .i64 ffr) ∧ wx.cell? ⟨w.heap.size, 2, none⟩ = some (.int .i64 fds) ∧ wx.cell? ⟨w.heap.size, 3, none⟩ = some (.int .i64 c) ∧ wx.cell? ⟨w.heap.size, 4, none⟩ = some (.int .i64 fep) ∧ wx.cell? ⟨w.heap.size, 5, none⟩ = some (.slice none 0 0)) 23 24 (by kernel_rfl) (by kernel_rfl) rfl rfl ?_ (fun hHeld => ?_)
    · (first | exact FX.out _ A5.out | exact FX.out _ (A5.out.below ((Below.refl _ _).alloc (Nat.le_refl _) _)) | exact YY.out _ _ A7.out | exact FX.out _ AA.out | go_keep)
    simp only [nopFor, List.setIfInBounds_toArray, List.set_cons_succ, List.set_cons_zero]
    refine wpAnyH_take (i := 0) (v := ?_) rfl (by kernel_rfl) (by kernel_rfl) (by kernel_rfl) (fun _ _ _ h => h) (Or.inl ⟨by rfl, ?_⟩) hHeld ?_
    rotate_left
    · intro w hSw
      try dsimp only at hSw
      go_simp
      all_goals with_reducible rfl
    try simp only [Act.put, List.setIfInBounds_toArray, List.set_cons_zero, List.set_cons_succ]
    refine wpAnyH_take (i := 1) (v := ?_) rfl (by kernel_rfl) (by kernel_rfl) (by kernel_rfl) (fun _ _ _ h => h) (Or.inl ⟨by rfl, ?_⟩) hHeld ?_
    rotate_left
    · intro w hSw
      try dsimp only at hSw
      go_simp
      all_goals with_reducible rfl
    try simp only [Act.put, List.setIfInBounds_toArray, List.set_cons_zero, List.set_cons_succ]
    refine wpAnyH_take (i := 2) (v := ?_) rfl (by kernel_rfl) (by kernel_rfl) (by kernel_rfl) (fun _ _ _ h => h) (Or.inl ⟨by rfl, ?_⟩) hHeld ?_
    rotate_left
    · intro w hSw
      try dsimp only at hSw
      go_simp
      all_goals with_reducible rfl
    try simp only [Act.put, List.setIfInBounds_toArray, List.set_cons_zero, List.set_cons_succ]
    refine wpAnyH_take (i := 3) (v := ?_) rfl (by kernel_rfl) (by kernel_rfl) (by kernel_rfl) (fun _ _ _ h => h) (Or.inl ⟨by rfl, ?_⟩) hHeld ?_
    rotate_left
    · intro w hSw
      try dsimp only at hSw
      go_simp
      all_goals with_reducible rfl
    try simp only [Act.put, List.setIfInBounds_toArray, List.set_cons_zero, List.set_cons_succ]
    refine wpAnyH_take (i := 4) (v := ?_) rfl (by kernel_rfl) (by kernel_rfl) (by kernel_rfl) (fun _ _ _ h => h) (Or.inl ⟨by rfl, ?_⟩) hHeld ?_
    rotate_left
    · intro w hSw
      try dsimp only at hSw
      go_simp
      all_goals with_reducible rfl
    try simp only [Act.put, List.setIfInBounds_toArray, List.set_cons_zero, List.set_cons_succ]
    refine wpAnyH_take (i := 5) (v := ?_) rfl (by kernel_rfl) (by kernel_rfl) (by kernel_rfl) (fun _ _ _ h => h) (Or.inl ⟨by rfl, ?_⟩) hHeld ?_
    rotate_left
    · intro w hSw
      try dsimp only at hSw
      go_simp
      all_goals with_reducible rfl
    try simp only [Act.put, List.setIfInBounds_toArray, List.set_cons_zero, List.set_cons_succ]
    refine wpAnyH_take (i := 6) (v := ?_) rfl (by kernel_rfl) (by kernel_rfl) (by kernel_rfl) (fun _ _ _ h => h) (Or.inl ⟨by rfl, ?_⟩) hHeld ?_
    rotate_left
    · intro w hSw
      try dsimp only at hSw
      go_simp
      all_goals with_reducible rfl
    try simp only [Act.put, List.setIfInBounds_toArray, List.set_cons_zero, List.set_cons_succ]
    refine wpAnyH_take (i := 7) (v := ?_) rfl (by kernel_rfl) (by kernel_rfl) (by kernel_rfl) (fun _ _ _ h => h) (Or.inl ⟨by rfl, ?_⟩) hHeld ?_
    rotate_left
    · intro w hSw
      try dsimp only at hSw
      go_simp
      all_goals with_reducible rfl
    try simp only [Act.put, List.setIfInBounds_toArray, List.set_cons_zero, List.set_cons_succ]
    refine wpAnyH_take (i := 8) (v := ?_) rfl (by kernel_rfl) (by kernel_rfl) (by kernel_rfl) (fun _ _ _ h => h) (Or.inl ⟨by rfl, ?_⟩) hHeld ?_
    rotate_left
    · intro w hSw
      try dsimp only at hSw
      go_simp
      all_goals with_reducible rfl
    try simp only [Act.put, List.setIfInBounds_toArray, List.set_cons_zero, List.set_cons_succ]
    refine wpAnyH_take (i := 9) (v := ?_) rfl (by kernel_rfl) (by kernel_rfl) (by kernel_rfl) (fun _ _ _ h => h) (Or.inl ⟨by rfl, ?_⟩) hHeld ?_
    rotate_left
    · intro w hSw
      try dsimp only at hSw
      go_simp
      all_goals with_reducible rfl
    try simp only [Act.put, List.setIfInBounds_toArray, List.set_cons_zero, List.set_cons_succ]
    refine wpAnyH_take (i := 10) (v := ?_) rfl (by kernel_rfl) (by kernel_rfl) (by kernel_rfl) (fun _ _ _ h => h) (Or.inl ⟨by rfl, ?_⟩) hHeld ?_
    rotate_left
    · intro w hSw
      try dsimp only at hSw
      go_simp
      all_goals with_reducible rfl
    try simp only [Act.put, List.setIfInBounds_toArray, List.set_cons_zero, List.set_cons_succ]
    refine wpAnyH_take (i := 11) (v := ?_) rfl (by kernel_rfl) (by kernel_rfl) (by kernel_rfl) (fun _ _ _ h => h) (Or.inl ⟨by rfl, ?_⟩) hHeld ?_
    rotate_left
    · intro w hSw
      try dsimp only at hSw
      go_simp
      all_goals with_reducible rfl
    try simp only [Act.put, List.setIfInBounds_toArray, List.set_cons_zero, List.set_cons_succ]
    refine wpAnyH_take (i := 12) (v := ?_) rfl (by kernel_rfl) (by kernel_rfl) (by kernel_rfl) (fun _ _ _ h => h) (Or.inl ⟨by rfl, ?_⟩) hHeld ?_
    rotate_left
    · intro w hSw
      try dsimp only at hSw
      go_simp
      all_goals with_reducible rfl
    try simp only [Act.put, List.setIfInBounds_toArray, List.set_cons_zero, List.set_cons_succ]
    refine wpAnyH_take (i := 13) (v := ?_) rfl (by kernel_rfl) (by kernel_rfl) (by kernel_rfl) (fun _ _ _ h => h) (Or.inl ⟨by rfl, ?_⟩) hHeld ?_
    rotate_left
    · intro w hSw
      try dsimp only at hSw
      go_simp
      all_goals with_reducible rfl
    try simp only [Act.put, List.setIfInBounds_toArray, List.set_cons_zero, List.set_cons_succ]
    refine wpAnyH_take (i := 14) (v := ?_) rfl (by kernel_rfl) (by kernel_rfl) (by kernel_rfl) (fun _ _ _ h => h) (Or.inl ⟨by rfl, ?_⟩) hHeld ?_
    rotate_left
    · intro w hSw
      try dsimp only at hSw
      go_simp
      all_goals with_reducible rfl
    try simp only [Act.put, List.setIfInBounds_toArray, List.set_cons_zero, List.set_cons_succ]
    refine wpAnyH_take (i := 15) (v := ?_) rfl (by kernel_rfl) (by kernel_rfl) (by kernel_rfl) (fun _ _ _ h => h) (Or.inl ⟨by rfl, ?_⟩) hHeld ?_
    rotate_left
    · intro w hSw
      try dsimp only at hSw
      go_simp
      all_goals with_reducible rfl
    try simp only [Act.put, List.setIfInBounds_toArray, List.set_cons_zero, List.set_cons_succ]
    refine wpAnyH_take (i := 16) (v := ?_) rfl (by kernel_rfl) (by kernel_rfl) (by kernel_rfl) (fun _ _ _ h => h) (Or.inl ⟨by rfl, ?_⟩) hHeld ?_
    rotate_left
    · intro w hSw
      try dsimp only at hSw
      go_simp
      all_goals with_reducible rfl
    try simp only [Act.put, List.setIfInBounds_toArray, List.set_cons_zero, List.set_cons_succ]
    refine wpAnyH_take (i := 17) (v := ?_) rfl (by kernel_rfl) (by kernel_rfl) (by kernel_rfl) (fun _ _ _ h => h) (Or.inl ⟨by rfl, ?_⟩) hHeld ?_
    rotate_left
    · intro w hSw
      try dsimp only at hSw
      go_simp
      all_goals with_reducible rfl
    try simp only [Act.put, List.setIfInBounds_toArray, List.set_cons_zero, List.set_cons_succ]
    refine wpAnyH_take (i := 18) (v := ?_) rfl (by kernel_rfl) (by kernel_rfl) (by kernel_rfl) (fun _ _ _ h => h) (Or.inl ⟨by rfl, ?_⟩) hHeld ?_
    rotate_left
    · intro w hSw
      try dsimp only at hSw
      go_simp
      all_goals with_reducible rfl
    try simp only [Act.put, List.setIfInBounds_toArray, List.set_cons_zero, List.set_cons_succ]
    refine wpAnyH_step (i := 19) (by kernel_rfl) rfl (fun KK hK => ?_)
    (go_simp; go_at_call 35; (with_reducible refine (CP.out _).mono ?_); rintro e w5 ⟨rfl, hb⟩; have A5 := Lib.hid (AA.out.below (by first | exact hb | exact ((Qt.refl _).drew.bel).trans hb)); clear hb; obtain ⟨n1, n2, n3⟩ := NL.out _ A5.out; have y1 := (FX.out _ A5.out).2.1; go_wp2_with fail)
    refine hK.out _ _ ?_ (fun hHeld => ?_)
    · (first | exact FX.out _ A5.out | exact FX.out _ (A5.out.below ((Below.refl _ _).alloc (Nat.le_refl _) _)) | exact YY.out _ _ A7.out | exact FX.out _ AA.out | go_keep)
    clear hK KK
    try simp only [Act.put, List.setIfInBounds_toArray, List.set_cons_zero, List.set_cons_succ]
    refine wpAnyH_step (i := 20) (by kernel_rfl) rfl (fun KK hK => ?_)
    (go_simp)
    refine hK.out _ _ ?_ (fun hHeld => ?_)
    · (first | exact FX.out _ A5.out | exact FX.out _ (A5.out.below ((Below.refl _ _).alloc (Nat.le_refl _) _)) | exact YY.out _ _ A7.out | exact FX.out _ AA.out | go_keep)
    clear hK KK
    try simp only [Act.put, List.setIfInBounds_toArray, List.set_cons_zero, List.set_cons_succ]
    refine wpAnyH_step (i := 21) (by kernel_rfl) rfl (fun KK hK => ?_)
    (refine step_append_cells (by rfl) _ _ 30 (by rfl) base 39 i1 _ 6 64 Try.underlying30 JI.out JZ0.out JZ1.out JZ2.out rfl (by decide) (.slice qa n qc) n (flC frC (M.q p c)) (by rfl) (NW.out _ A5.out).1 (some ⟨w5.heap.size, 0, none⟩) 1 1 (frC f) (by rfl) rfl (NW.out _ A5.out).2.1 ONE.out (by unfold maxLen; omega) (by omega) (by have := (NW.out _ A5.out).2.2; simp; omega) ?_; intro v' w7 g1 g2 g3; obtain ⟨va, vc, rfl, _⟩ := own_shape g1; have A7 := Lib.hid (APP.out _ _ _ A5.out g1 g2 g3); clear g1 g2 g3; have z2 := (YY.out _ _ A7.out).2.2.1; have z1 := (YY.out _ _ A7.out).2.1)
    refine hK.out _ _ ?_ (fun hHeld => ?_)
    · (first | exact FX.out _ A5.out | exact FX.out _ (A5.out.below ((Below.refl _ _).alloc (Nat.le_refl _) _)) | exact YY.out _ _ A7.out | exact FX.out _ AA.out | go_keep)
    clear hK KK
    try simp only [Act.put, List.setIfInBounds_toArray, List.set_cons_zero, List.set_cons_succ]
    refine wpAnyH_take (i := 22) (v := ?_) rfl (by kernel_rfl) (by kernel_rfl) (by kernel_rfl) (fun _ _ _ h => h) (Or.inl ⟨by rfl, ?_⟩) hHeld ?_
    rotate_left
    · intro w hSw
      try dsimp only at hSw
      go_simp
      all_goals with_reducible rfl
    try simp only [Act.put, List.setIfInBounds_toArray, List.set_cons_zero, List.set_cons_succ]
    refine wpAnyH_take (i := 23) (v := ?_) rfl (by kernel_rfl) (by kernel_rfl) (by kernel_rfl) (fun _ _ _ h => h) (Or.inl ⟨by rfl, ?_⟩) hHeld ?_
    rotate_left
    · intro w hSw
      try dsimp only at hSw
      go_simp
      all_goals with_reducible rfl
    try simp only [Act.put, List.setIfInBounds_toArray, List.set_cons_zero, List.set_cons_succ]
    refine wpAnyH_done (by kernel_rfl) ?_ _
    rw [LastQ_normal]
    have F7 := Lib.hid (FIN.out _ _ A7.out)
    go_wp2_with fail
    go_ret
    have F8 := F7.out.pre B1.out
    rw [HFE.out] at F8
    exact ⟨.slice va (n + 1) vc, rfl, F8⟩
end
end Go.Proofs.Ytkooihniieepcaa
