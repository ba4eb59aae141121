/-
  switchbox: pop.
-/
import Derived.Test.YtkooihniieepcaaSwC
namespace Go.Proofs.Ytkooihniieepcaa
open Go.RowKit
set_option linter.unusedVariables false

theorem fre_gok {x : I3} (h : GOk x) (hr : x.c < x.b) (hb : x.b ≤ 1000) : GOk (freX x) ∧ (freX x).b = x.b ∧ (freX x).c = x.c + 1 ∧ (freX x).a = x.a := by
  unfold freX
  rw [if_neg (by omega)]
  refine ⟨⟨h.h1, h.h2, ?_, ?_, ?_, ?_⟩, rfl, rfl, rfl⟩
  · show 0 ≤ x.c + 1
    have := h.h3; omega
  · show x.c + 1 ≤ x.b
    omega
  · show x.b ≤ x.a + (x.c + 1)
    have := h.h5; omega
  · show x.c + 1 ≤ 100000
    omega
section
variable {w w' : World} {base P K : Nat} {L : Loc} {M : Md}
theorem St.giver (h : St w base (conf P K L M)) {p c : Nat} (hp : p < P) (hc : c < K) : GAt w base (L.gv p c) (L.gc p c) [M.gv p c] := by
  have h1 := h.at_ (.gv p c) _ (if_pos ⟨hp, hc⟩)
  have h2 := h.at_ (.gc p c) _ (if_pos ⟨hp, hc⟩)
  refine ⟨h1.1, h2.1, fun e => ?_, h1.2, h2.2⟩
  have := h.sep (.gv p c) (.gc p c) _ _ (L.gv p c) (if_pos ⟨hp, hc⟩) (if_pos ⟨hp, hc⟩) rfl (by rw [e]; rfl)
  cases this
theorem St.cG (h : St w base (conf P K L M)) (h8 : P ≤ 8) {p : Nat} (hp : p < P) : w.cell? ⟨L.bb, 10 + p, none⟩ = some (L.gr p) := by
  have hb : Fun w L.bb 73 36 (boxF P K L M.ptr) := h.blk (r := .box) rfl
  rw [hb.cell (j := 10 + p) (by omega)]
  unfold boxF
  rw [if_neg (by omega), if_neg (by omega), if_neg (by omega), if_pos (by omega), Nat.add_sub_cancel_left, if_pos hp]
theorem St.wG (h : St w base (conf P K L M)) (h8 : P ≤ 8) {p c : Nat} (hp : p < P) (hc : c < K) : ∃ g m, w.cell? ⟨L.bb, 10 + p, none⟩ = some (.slice (some ⟨g, 0, none⟩) K m) ∧ w.cell? ⟨g, c, none⟩ = some (.pointer (some ⟨L.gv p c, 0, none⟩)) := by
  have ho := h.row (r := .gr p) (if_pos hp)
  obtain ⟨a, m, e, _⟩ := own_shape ho
  have hk : List.range K ≠ [] := by intro e; have := congrArg List.length e; simp at this; omega
  rw [e] at ho
  obtain ⟨g, sp, rfl, _, hb, _⟩ := own_blk ho hk
  refine ⟨g, m, by rw [h.cG h8 hp, e], hb.cell ?_⟩
  rw [List.getElem?_append_left (by simpa using hc)]
  exact fun_get _ hc
/-- Behind append: a new row of the frames that stay. -/
structure PopApp (w0 : World) (base P K : Nat) (L : Loc) (M : Md) (p c rb tb : Nat) (f : Fr) (v : Value) (l : List Fr) (w : World) : Prop where
  st : St w base (setC (conf P K L M) (.qf p c) (.row v 39 6 l.length (flC frC l)))
  u : Below w0.heap.size w0 w
  v0 : ∀ k, v.ownBlock = some k → w0.heap.size ≤ k
  tb_ : Blk w tb 39 (frC f)
  tb0 : w0.heap.size ≤ tb
  rb_ : Blk w rb 39 (frC ⟨0, 0, 0, 0, 0⟩)
  rb0 : w0.heap.size ≤ rb
  v1 : v.ownBlock ≠ some rb
/-- Behind the store of the row. -/
structure PopMid (w0 : World) (base P K : Nat) (L : Loc) (M : Md) (p c rb tb : Nat) (f : Fr) (v : Value) (l : List Fr) (w : World) : Prop where
  st : St w base (conf P K (locQ L p c v) { M with q := upd2 M.q p c l })
  u : Upd (fun k => k = L.qr p) w0 w
  v0 : ∀ k, v.ownBlock = some k → w0.heap.size ≤ k
  tb_ : Blk w tb 39 (frC f)
  tb0 : w0.heap.size ≤ tb
  rb_ : Blk w rb 39 (frC ⟨0, 0, 0, 0, 0⟩)
  rb0 : w0.heap.size ≤ rb
  v1 : v.ownBlock ≠ some rb
theorem pop_app {w0 w1 w2 : World} {p c rb tb : Nat} {f : Fr} {v : Value} {l : List Fr} (h : BoxAt w0 base P K L M) (q : Below w0.heap.size w0 w1) (ho : w2.ownsRow base 39 6 v l.length (flC frC l)) (gr : w1.grownBy w2 (Value.slice none 0 0).ownBlock)
    (hv : v.ownBlock = (Value.slice none 0 0).ownBlock ∨ v.ownBlock = some w1.heap.size) (hp : p < P) (hc : c < K) (tb_ : Blk w1 tb 39 (frC f)) (tb0 : w0.heap.size ≤ tb) (rb_ : Blk w1 rb 39 (frC ⟨0, 0, 0, 0, 0⟩)) (rb0 : w0.heap.size ≤ rb) : PopApp w0 base P K L M p c rb tb f v l w2 := by
  have h1 := h.st.below q
  have u : Upd (fun k => (Value.slice none 0 0).ownBlock = some k) w1 w2 := Upd.of_grownV gr
  have hv0 : ∀ k, v.ownBlock = some k → w0.heap.size ≤ k := fun k hk => by
    rcases hv with e | e
    · rw [e] at hk; cases hk
    · rw [e] at hk; cases hk; exact q.size
  have hr : conf P K L M (.qf p c) = some (.row (L.q p c) 39 6 (M.q p c).length (flC frC (M.q p c))) := if_pos ⟨hp, hc⟩
  have bel : Below w1.heap.size w1 w2 := Upd.below (Below.refl _ _) u (Nat.le_refl _) (fun j hj => by cases hj)
  refine ⟨h1.put (.qf p c) _ u (fun k hk _ => by cases hk) ho (fun k hk => .inr ?_), q.trans (bel.mono q.size), hv0, tb_.upd u (fun e => by cases e), tb0, rb_.upd u (fun e => by cases e), rb0, fun hk => ?_⟩
  · rcases hv with e | e
    · have : v.ownBlock = some k := hk
      rw [e] at this; cases this
    · have : v.ownBlock = some k := hk
      rw [e] at this; cases this; exact Nat.le_refl _
  · have h9 := rb_.lt
    rcases hv with e | e
    · rw [e] at hk; cases hk
    · rw [e] at hk; cases hk; omega
theorem PopApp.below {w0 : World} {p c rb tb : Nat} {f : Fr} {v : Value} {l : List Fr} (h : PopApp w0 base P K L M p c rb tb f v l w) (q : Below w.heap.size w w') : PopApp w0 base P K L M p c rb tb f v l w' :=
  ⟨h.st.below q, h.u.trans (q.mono h.u.size), h.v0, h.tb_.upd (Upd.of_below (S := fun _ => False) q) id, h.tb0, h.rb_.upd (Upd.of_below (S := fun _ => False) q) id, h.rb0, h.v1⟩
theorem PopApp.y {w0 : World} {p c rb tb : Nat} {f : Fr} {v : Value} {l : List Fr} (h : PopApp w0 base P K L M p c rb tb f v l w) (h8 : P ≤ 8) (hp : p < P) (hc : c < K) : w.cell? ⟨L.bb, 2 + p, none⟩ = some (.slice (some ⟨L.qr p, 0, none⟩) K K) ∧ w.cell? ⟨L.qr p, c, none⟩ = some (L.q p c) ∧ w.frozen? ⟨L.qr p, c, none⟩ = false := by
  have hb : Fun w L.bb 73 36 (boxF P K L M.ptr) := h.st.blk (r := .box) (by rw [setC_ne _ _ (by intro e; cases e)]; rfl)
  have hq : Fun w (L.qr p) 30 K (L.q p) := h.st.blk (r := .qr p) (by rw [setC_ne _ _ (by intro e; cases e)]; exact if_pos hp)
  refine ⟨?_, hq.cell hc, hq.free c⟩
  rw [hb.cell (j := 2 + p) (by omega)]
  unfold boxF
  rw [if_neg (by omega), if_neg (by omega), if_pos (by omega), Nat.add_sub_cancel_left, if_pos hp]
theorem PopApp.mid {w0 : World} {p c rb tb : Nat} {f : Fr} {v : Value} {l : List Fr} (h : PopApp w0 base P K L M p c rb tb f v l w) (H0 : BoxAt w0 base P K L M) (hp : p < P) (hc : c < K) : PopMid w0 base P K L M p c rb tb f v l (w.setCell ⟨L.qr p, c, none⟩ v) := by
  have hr : conf P K L M (.qr p) = some (.blk (L.qr p) 30 ((List.range K).map (L.q p))) := if_pos hp
  have s1 := h.st.store (r := .qr p) (k := L.qr p) (T := 30) (l := (List.range K).map (L.q p)) (i := c) (v := v) (l' := (List.range K).map (Bar.upd (L.q p) c v)) (by rw [setC_ne _ _ (by intro e; cases e)]; exact hr) (Bar.range_upd _ _ hc).symm
  have e := conf_qr P K L M p c v l hp hc
  have hne : ∀ b, w0.heap.size ≤ b → ¬ b = L.qr p := fun b hb e => by
    have := (H0.rQ hp).lt
    omega
  have ux : Upd (fun k => k = L.qr p) w (w.setCell ⟨L.qr p, c, none⟩ v) := (Upd.of_below (S := fun k => k = L.qr p) (Below.refl _ _)).setCell ⟨L.qr p, c, none⟩ v fun _ => rfl
  exact ⟨s1.congr e, (Upd.of_below h.u).setCell ⟨L.qr p, c, none⟩ v fun _ => rfl, h.v0, h.tb_.upd ux (hne _ h.tb0), h.tb0, h.rb_.upd ux (hne _ h.rb0), h.rb0, h.v1⟩
theorem PopMid.below {w0 : World} {p c rb tb : Nat} {f : Fr} {v : Value} {l : List Fr} (h : PopMid w0 base P K L M p c rb tb f v l w) (q : Below w.heap.size w w') : PopMid w0 base P K L M p c rb tb f v l w' :=
  ⟨h.st.below q, Upd.then h.u (Upd.of_below (S := fun _ => False) q) (fun _ _ h => h.elim), h.v0, h.tb_.upd (Upd.of_below (S := fun _ => False) q) id, h.tb0, h.rb_.upd (Upd.of_below (S := fun _ => False) q) id, h.rb0, h.v1⟩
/-- Behind Free. -/
theorem PopMid.fin {w0 : World} {p c rb tb : Nat} {f : Fr} {v : Value} {l : List Fr} {x : I3} (h : PopMid w0 base P K L M p c rb tb f v l w) (H0 : BoxAt w0 base P K L M) (hp : p < P) (hc : c < K) (ht : GAt w' base (L.gv p c) (L.gc p c) [x]) (u : Upd (fun k => k = L.gc p c) w w')
    (hx : GOk x) (hb : x.b ≤ 1000) (hl : (l.length : Int) = x.b - x.c) (hm : l.length ≤ 64) : BxPost w0 base P K L M (locQ L p c v) (mdQ M p c l x) w' ∧ Blk w' tb 39 (frC f) ∧ Blk w' rb 39 (frC ⟨0, 0, 0, 0, 0⟩) ∧ ¬ boxS P K (locQ L p c v) (mdQ M p c l x) rb := by
  have hq0 : conf P K L M (.qf p c) = some (.row (L.q p c) 39 6 (M.q p c).length (flC frC (M.q p c))) := if_pos ⟨hp, hc⟩
  have hg0 : conf P K L M (.gc p c) = some (.blk (L.gc p c) 100 (cs3 [M.gv p c])) := if_pos ⟨hp, hc⟩
  have hr0 : conf P K L M (.qr p) = some (.blk (L.qr p) 30 ((List.range K).map (L.q p))) := if_pos hp
  have s1 : St w' base (conf P K (locQ L p c v) (mdQ M p c l x)) := h.st.setG hp hc ht u
  have foot : ∀ k, boxS P K (locQ L p c v) (mdQ M p c l x) k → boxS P K L M k ∨ v.ownBlock = some k := fun k hk => by
    obtain ⟨r, q, h1, h2⟩ := hk
    have hc2 := conf_qr P K L M p c v l hp hc
    have hc3 := conf_gc P K (locQ L p c v) { M with q := upd2 M.q p c l } p c x hp hc
    have hk3 : ftC (conf P K (locQ L p c v) (mdQ M p c l x)) k := ⟨r, q, h1, h2⟩
    rcases ftC_set (ftC_congr hc3 hk3) with hk | hk
    · rcases ftC_set (ftC_congr hc2 hk) with hk | hk
      · rcases ftC_set hk with hk | hk
        · exact .inl hk
        · exact .inr hk
      · exact .inl ⟨_, _, hr0, hk⟩
    · exact .inl ⟨_, _, hg0, hk⟩
  refine ⟨⟨⟨s1, H0.ok.setQ hp hc hx hb hl hm⟩, Upd.then (h.u.mono fun k _ hk => ⟨_, _, hr0, by rw [hk]; rfl⟩) u (fun k _ hk => ⟨_, _, hg0, by rw [hk]; rfl⟩), fun k hk => (foot k hk).imp id (h.v0 k)⟩, h.tb_.upd u (fun e => ?_), h.rb_.upd u (fun e => ?_), fun hk => ?_⟩
  · have h1 := (H0.lt (k := L.gc p c) ⟨_, _, hg0, rfl⟩).2
    have h2 := h.tb0
    omega
  · have h1 := (H0.lt (k := L.gc p c) ⟨_, _, hg0, rfl⟩).2
    have h2 := h.rb0
    omega
  · rcases foot _ hk with h1 | h1
    · have := (H0.lt h1).2
      have h2 := h.rb0
      omega
    · exact h.v1 h1
set_option maxHeartbeats 4000000 in
set_option maxRecDepth 100000 in
theorem pop_ok (p c : Nat) (f : Fr) (l : List Fr) (hf : M.q p c = f :: l) (h : BoxAt w base P K L M) (hp : p < P) (hc : c < K) (hbase : base ≤ w.heap.size) :
    Calls Try.prog 39 #[.pointer (some ⟨L.bb, 0, none⟩), .int .i64 p, .int .i64 c] w fun e w' =>
    ∃ v, e = .returned (frV f) ∧ BxPost w base P K L M (locQ L p c v) (mdQ M p c l (freX (M.gv p c))) w' := by
  have H := Lib.hid h
  have HF := Lib.hid hf
  have y0 := h.cQ hp
  have y1 := (h.rQ hp).cell hc
  have hq := h.queue hp hc
  rw [hf] at hq
  obtain ⟨qa, qc, hqs, _⟩ := own_shape hq
  rw [hqs] at hq y1
  have hqk := hq
  obtain ⟨g, sp, rfl, hg, hb, hcap, hcm, _, hn⟩ := ownC_blk frC_len (by decide) hq (by simp)
  have hql := h.ok.ql p hp c hc
  have hqm := h.ok.qm p hp c hc
  rw [hf] at hql hqm
  simp only [List.length_cons] at hql hqm hcap
  have hgb := h.ok.gb p hp c hc
  have GO := fre_gok (h.ok.gv p hp c hc) (by omega) hgb
  obtain ⟨_, d0⟩ := ownC_cell frC_len (by decide) hqk (j := 0) (p := f) rfl (k := 0) (by decide) rfl
  obtain ⟨_, d1⟩ := ownC_cell frC_len (by decide) hqk (j := 0) (p := f) rfl (k := 1) (by decide) rfl
  obtain ⟨_, d2⟩ := ownC_cell frC_len (by decide) hqk (j := 0) (p := f) rfl (k := 2) (by decide) rfl
  obtain ⟨_, d3⟩ := ownC_cell frC_len (by decide) hqk (j := 0) (p := f) rfl (k := 3) (by decide) rfl
  obtain ⟨_, d4⟩ := ownC_cell frC_len (by decide) hqk (j := 0) (p := f) rfl (k := 4) (by decide) rfl
  obtain ⟨_, d5⟩ := ownC_cell frC_len (by decide) hqk (j := 0) (p := f) rfl (k := 5) (by decide) rfl
  simp only [adr_mk, Nat.zero_mul, Nat.zero_add, List.length_cons] at d0 d1 d2 d3 d4 d5
  simp only [List.length_cons] at y1
  have h8 := h.ok.p8
  have hl1 : L.bb < w.heap.size := Blk.lt (h.st.blk (r := .box) rfl)
  have hl2 : L.qr p < w.heap.size := (h.rQ hp).lt
  have hl3 : g < w.heap.size := hb.lt
  have p0 : (0 : Int) ≤ (p : Int) := by omega
  have p1 : (p : Int) < 8 := by omega
  have p2 : (0 : Int) ≤ (c : Int) := by omega
  have p3 : (c : Int) < (K : Int) := by omega
  have l0 : (0 : Int) < (l.length : Int) + 1 := by omega
  have l1 : (1 : Int) ≤ (l.length : Int) + 1 := by omega
  have l2 : (l.length : Int) + 1 ≤ (qc : Int) := by omega
  have HB := Lib.hid hqk; have QS := Lib.hid hqs; have GK := Lib.hid GO; have HQ := Lib.hid (show (l.length : Int) = (M.gv p c).b - (M.gv p c).c - 1 ∧ l.length + 1 ≤ 64 by omega)
  clear h hq hqk hqs hb GO hgb hql hf hn
  go_enter Try.func39, Try.ntmps39
  go_upto_region 3 with (fail)
  obtain ⟨w1, hw1, B1, T1, R1⟩ : ∃ w1, (w.alloc (.cells #[.int .i64 0, .int .i64 0, .int .i64 0, .int .i64 0, .int .i64 0, .slice none 0 0] 39)).alloc (.cells #[.int .i64 f.id, .int .i64 f.frm, .int .i64 f.dst, .int .i64 f.cls, .int .i64 f.ep, .slice none 0 0] 39) = w1 ∧ Hid (Below w.heap.size w w1) ∧ Hid (Blk w1 (w.heap.size + 1) 39 (frC f)) ∧ Hid (Blk w1 w.heap.size 39 (frC ⟨0, 0, 0, 0, 0⟩)) := by
    refine ⟨_, rfl, ((Below.refl _ _).alloc (Nat.le_refl _) _).alloc (by simp) _, ?_, ?_⟩
    · have := Blk.new (w.alloc (.cells #[.int .i64 0, .int .i64 0, .int .i64 0, .int .i64 0, .int .i64 0, .slice none 0 0] 39)) 39 (frC f)
      simp at this
      exact this
    · exact (Blk.new w 39 (frC ⟨0, 0, 0, 0, 0⟩)).upd (Upd.of_below (S := fun _ => False) ((Below.refl _ _).alloc (Nat.le_refl _) _)) id
  rw [hw1]
  obtain ⟨i1, hi, hz0, hz1, hz2⟩ := info_parts Try.infoFr
  have JI := Lib.hid hi; have JZ0 := Lib.hid hz0; have JZ1 := Lib.hid hz1; have JZ2 := Lib.hid hz2
  have SRC : Hid (∀ wx, Below w1.heap.size w1 wx → ∀ j u, (flC frC l)[j]? = some u → okAd (if qc = 1 then some ⟨g, 0, none⟩ else some ⟨g, 6, none⟩) = true ∧ wx.cell? (adr (if qc = 1 then some ⟨g, 0, none⟩ else some ⟨g, 6, none⟩) j) = some u) := fun wx hx j u hj => by
    have hl0 : l ≠ [] := by rintro rfl; simp [flC] at hj
    have hl1 : 0 < l.length := List.length_pos_iff.2 hl0
    rw [if_neg (by omega)]
    have h1 := own_upd (own_upd HB.out (Upd.of_below (S := fun _ => False) B1.out) (fun _ _ => id)) (Upd.of_below (S := fun _ => False) hx) (fun _ _ => id)
    have h2 := (ownC_all h1 (6 + j) u (by
      show (frC f ++ flC frC l)[6 + j]? = some u
      rw [List.getElem?_append_right (by show 6 ≤ 6 + j; omega)]
      show (flC frC l)[6 + j - 6]? = some u
      rw [Nat.add_sub_cancel_left]
      exact hj)).2
    rw [adr_mk] at h2 ⊢
    rw [show 6 + j = 0 + (6 + j) by omega]
    exact ⟨rfl, h2⟩
  have ZL : Hid (∀ w : World, w.ownsRow base 39 6 (.slice none 0 0) 0 []) := fun w => World.ownsRow_nil _ _ _ _
  have LL : Hid ((flC frC l).length = l.length * 6) := flC_len frC_len l
  have ONE : Hid (∀ u ∈ flC frC l, u.oneCell' = true) := flC_cells frC_one l
  have MKA : Hid (∀ wx w7 v', Below w1.heap.size w1 wx → w7.ownsRow base 39 6 v' l.length (flC frC l) → wx.grownBy w7 (Value.slice none 0 0).ownBlock → (v'.ownBlock = (Value.slice none 0 0).ownBlock ∨ v'.ownBlock = some wx.heap.size) → PopApp w base P K L M p c w.heap.size (w.heap.size + 1) f v' l w7) := fun wx w7 v' hx g1 g2 g3 => by
    exact pop_app H.out (B1.out.trans (hx.mono B1.out.size)) g1 g2 g3 hp hc (T1.out.upd (Upd.of_below (S := fun _ => False) hx) id) (by omega) (R1.out.upd (Upd.of_below (S := fun _ => False) hx) id) (Nat.le_refl _)
  have YY : Hid (∀ wx v', PopApp w base P K L M p c w.heap.size (w.heap.size + 1) f v' l wx → wx.cell? ⟨L.bb, 2 + p, none⟩ = some (.slice (some ⟨L.qr p, 0, none⟩) K K) ∧ wx.cell? ⟨L.qr p, c, none⟩ = some (.slice (some ⟨g, 0, none⟩) (l.length + 1) qc) ∧ wx.frozen? ⟨L.qr p, c, none⟩ = false) := fun wx v' hx => by
    have := hx.y h8 hp hc
    rw [QS.out] at this
    exact this
  have h1 := H.out.below B1.out
  have z0 := h1.cQ hp
  have z1 := (h1.rQ hp).cell hc
  rw [QS.out] at z1
  simp only [List.length_cons] at z1
  have z2 := (h1.rQ hp).free c
  have hbs := B1.out.size
  have MID : Hid (∀ w7 v', PopApp w base P K L M p c w.heap.size (w.heap.size + 1) f v' l w7 → PopMid w base P K L M p c w.heap.size (w.heap.size + 1) f v' l (w7.setCell ⟨L.qr p, c, none⟩ v')) := fun w7 v' hx => hx.mid H.out hp hc
  clear h1 hw1 d0 d1 d2 d3 d4 d5 y0 y1 hl1 hl2 hl3
  refine wp_region_lastH (fun wx => wx.cell? ⟨L.bb, 2 + p, none⟩ = some (.slice (some ⟨L.qr p, 0, none⟩) K K) ∧ wx.cell? ⟨L.qr p, c, none⟩ = some (.slice (some ⟨g, 0, none⟩) (l.length + 1) qc) ∧ wx.frozen? ⟨L.qr p, c, none⟩ = false) 11 12 (by kernel_rfl) (by kernel_rfl) rfl rfl ?_ (fun hHeld => ?_)
  · (first | exact YY.out _ _ A7.out | go_keep)
  simp only [nopFor, List.set_cons_succ, List.set_cons_zero]
  refine wpAnyH_takeL (i := 0) (v := ?_) rfl (by kernel_rfl) (by kernel_rfl) (by kernel_rfl) (fun _ _ _ h => h) rfl ?_ hHeld ?_
  rotate_left
  · intro w hSw
    try dsimp only at hSw
    go_simp
    all_goals with_reducible rfl
  try simp only [Act.put, List.setIfInBounds_toArray, List.set_cons_zero, List.set_cons_succ]
  refine wpAnyH_takeL (i := 1) (v := ?_) rfl (by kernel_rfl) (by kernel_rfl) (by kernel_rfl) (fun _ _ _ h => h) rfl ?_ hHeld ?_
  rotate_left
  · intro w hSw
    try dsimp only at hSw
    go_simp
    all_goals with_reducible rfl
  try simp only [Act.put, List.setIfInBounds_toArray, List.set_cons_zero, List.set_cons_succ]
  refine wpAnyH_takeL (i := 2) (v := ?_) rfl (by kernel_rfl) (by kernel_rfl) (by kernel_rfl) (fun _ _ _ h => h) rfl ?_ hHeld ?_
  rotate_left
  · intro w hSw
    try dsimp only at hSw
    go_simp
    all_goals with_reducible rfl
  try simp only [Act.put, List.setIfInBounds_toArray, List.set_cons_zero, List.set_cons_succ]
  refine wpAnyH_takeL (i := 3) (v := ?_) rfl (by kernel_rfl) (by kernel_rfl) (by kernel_rfl) (fun _ _ _ h => h) rfl ?_ hHeld ?_
  rotate_left
  · intro w hSw
    try dsimp only at hSw
    go_simp
    all_goals with_reducible rfl
  try simp only [Act.put, List.setIfInBounds_toArray, List.set_cons_zero, List.set_cons_succ]
  refine wpAnyH_takeL (i := 4) (v := ?_) rfl (by kernel_rfl) (by kernel_rfl) (by kernel_rfl) (fun _ _ _ h => h) rfl ?_ hHeld ?_
  rotate_left
  · intro w hSw
    try dsimp only at hSw
    go_simp
    all_goals with_reducible rfl
  try simp only [Act.put, List.setIfInBounds_toArray, List.set_cons_zero, List.set_cons_succ]
  refine wpAnyH_takeL (i := 5) (v := ?_) rfl (by kernel_rfl) (by kernel_rfl) (by kernel_rfl) (fun _ _ _ h => h) rfl ?_ hHeld ?_
  rotate_left
  · intro w hSw
    try dsimp only at hSw
    go_simp
    all_goals with_reducible rfl
  try simp only [Act.put, List.setIfInBounds_toArray, List.set_cons_zero, List.set_cons_succ]
  refine wpAnyH_takeL (i := 6) (v := ?_) rfl (by kernel_rfl) (by kernel_rfl) (by kernel_rfl) (fun _ _ _ h => h) rfl ?_ hHeld ?_
  rotate_left
  · intro w hSw
    try dsimp only at hSw
    go_simp
    all_goals with_reducible rfl
  try simp only [Act.put, List.setIfInBounds_toArray, List.set_cons_zero, List.set_cons_succ]
  refine wpAnyH_takeL (i := 7) (v := ?_) rfl (by kernel_rfl) (by kernel_rfl) (by kernel_rfl) (fun _ _ _ h => h) rfl ?_ hHeld ?_
  rotate_left
  · intro w hSw
    try dsimp only at hSw
    go_simp
    all_goals with_reducible rfl
  try simp only [Act.put, List.setIfInBounds_toArray, List.set_cons_zero, List.set_cons_succ]
  refine wpAnyH_takeL (i := 8) (v := ?_) rfl (by kernel_rfl) (by kernel_rfl) (by kernel_rfl) (fun _ _ _ h => h) rfl ?_ hHeld ?_
  rotate_left
  · intro w hSw
    try dsimp only at hSw
    go_simp
    all_goals with_reducible rfl
  try simp only [Act.put, List.setIfInBounds_toArray, List.set_cons_zero, List.set_cons_succ]
  refine wpAnyH_step (i := 9) (by kernel_rfl) rfl (fun KK hK => ?_)
  (refine step_append_cells (by rfl) _ _ 30 (by rfl) base 39 i1 _ 6 64 Try.underlying30 JI.out JZ0.out JZ1.out JZ2.out rfl (by decide) (.slice none 0 0) 0 [] (by rfl) (ZL.out _) (if qc = 1 then some ⟨g, 0, none⟩ else some ⟨g, 6, none⟩) l.length (qc - 1) (flC frC l) (by rfl) LL.out (SRC.out _ (Qt.refl _).drew.bel) ONE.out (by unfold maxLen; omega) (by omega) (by simp; omega) ?_; intro v' w7 g1 g2 g3; rw [Nat.zero_add, List.nil_append] at g1; obtain ⟨va, vc, rfl, _⟩ := own_shape g1; have A7 := Lib.hid (MKA.out _ _ _ (Qt.refl _).drew.bel g1 g2 g3); clear g1 g2 g3; have x2 := (YY.out _ _ A7.out).2.2; have x1 := (YY.out _ _ A7.out).2.1)
  refine hK.out _ _ ?_ (fun hHeld => ?_)
  · (first | exact YY.out _ _ A7.out | go_keep)
  clear hK KK
  try simp only [Act.put, List.setIfInBounds_toArray, List.set_cons_zero, List.set_cons_succ]
  refine wpAnyH_takeL (i := 10) (v := ?_) rfl (by kernel_rfl) (by kernel_rfl) (by kernel_rfl) (fun _ _ _ h => h) rfl ?_ hHeld ?_
  rotate_left
  · intro w hSw
    try dsimp only at hSw
    go_simp
    all_goals with_reducible rfl
  try simp only [Act.put, List.setIfInBounds_toArray, List.set_cons_zero, List.set_cons_succ]
  refine wpAnyH_takeL (i := 11) (v := ?_) rfl (by kernel_rfl) (by kernel_rfl) (by kernel_rfl) (fun _ _ _ h => h) rfl ?_ hHeld ?_
  rotate_left
  · intro w hSw
    try dsimp only at hSw
    go_simp
    all_goals with_reducible rfl
  try simp only [Act.put, List.setIfInBounds_toArray, List.set_cons_zero, List.set_cons_succ]
  refine wpAnyH_done (by kernel_rfl) ?_ _
  rw [LastQ_normal]
  have A8 := Lib.hid (MID.out _ _ A7.out)
  obtain ⟨w8, hw8⟩ : ∃ w8, w7.setCell ⟨L.qr p, c, none⟩ (.slice va l.length vc) = w8 := ⟨_, rfl⟩
  have HW8 := Lib.hid hw8
  rw [hw8] at A8
  have FR := Lib.hid (fre_ok w8 base _ _ 0 _ _ (A8.out.st.giver hp hc) rfl (H.out.ok.gv p hp c hc) (by simp))
  obtain ⟨g2, m2, e0, e1⟩ : ∃ g m, w8.cell? ⟨L.bb, 10 + p, none⟩ = some (.slice (some ⟨g, 0, none⟩) K m) ∧ w8.cell? ⟨g, c, none⟩ = some (.pointer (some ⟨L.gv p c, 0, none⟩)) := A8.out.st.wG h8 hp hc
  have FIN : Hid (∀ w9, GAt w9 base (L.gv p c) (L.gc p c) ([M.gv p c].set 0 (freX (M.gv p c))) → Upd (fun k => k = L.gc p c) w8 w9 → BxPost w base P K L M (locQ L p c (.slice va l.length vc)) (mdQ M p c l (freX (M.gv p c))) w9 ∧ Blk w9 (w.heap.size + 1) 39 (frC f) ∧ Blk w9 w.heap.size 39 (frC ⟨0, 0, 0, 0, 0⟩) ∧ ¬ boxS P K (locQ L p c (.slice va l.length vc)) (mdQ M p c l (freX (M.gv p c))) w.heap.size) := fun w9 hg hu => by
    obtain ⟨k1, k2, k3, k4⟩ := GK.out
    exact A8.out.fin H.out hp hc hg hu k1 (by rw [k2]; exact H.out.ok.gb p hp c hc) (by rw [k2, k3]; have := HQ.out.1; omega) (by have := HQ.out.2; omega)
  clear hw8 z0 z1 z2 hHeld
  generalize (if qc = 1 then (some ⟨g, 0, none⟩ : Option Addr) else some ⟨g, 6, none⟩) = A
  go_upto_region 4 with (fail)
  rw [HW8.out]
  go_wp2_with fail
  refine FR.out.mono ?_
  rintro e w9 ⟨rfl, hg9, hu9⟩
  have F9 := Lib.hid (FIN.out _ hg9 hu9)
  clear hg9 hu9
  have t0 := F9.out.2.1.cell (i := 0) rfl
  have t1 := F9.out.2.1.cell (i := 1) rfl
  have t2 := F9.out.2.1.cell (i := 2) rfl
  have t3 := F9.out.2.1.cell (i := 3) rfl
  have t4 := F9.out.2.1.cell (i := 4) rfl
  have t5 := F9.out.2.1.cell (i := 5) rfl
  have r0 := F9.out.2.2.1.cell (i := 0) rfl
  have s0 := F9.out.2.2.1.free 0
  have r1 := F9.out.2.2.1.cell (i := 1) rfl
  have s1 := F9.out.2.2.1.free 1
  have r2 := F9.out.2.2.1.cell (i := 2) rfl
  have s2 := F9.out.2.2.1.free 2
  have r3 := F9.out.2.2.1.cell (i := 3) rfl
  have s3 := F9.out.2.2.1.free 3
  have r4 := F9.out.2.2.1.cell (i := 4) rfl
  have s4 := F9.out.2.2.1.free 4
  have r5 := F9.out.2.2.1.cell (i := 5) rfl
  have s5 := F9.out.2.2.1.free 5
  go_wp2_with fail
  refine bodyPost_ret (v := frV f) (by unfold frV; simp [results, Try.results39, go_sem, r0, r1, r2, r3, r4, r5]) rfl ?_
  refine ⟨.slice va l.length vc, rfl, F9.out.1.upd (S := fun k => k = w.heap.size) (((((((Upd.of_below (S := fun k => k = w.heap.size) (Below.refl _ _)).setCell _ _ fun _ => rfl).setCell _ _ fun _ => rfl).setCell _ _ fun _ => rfl).setCell _ _ fun _ => rfl).setCell _ _ fun _ => rfl).setCell _ _ fun _ => rfl) fun k hk => ?_⟩
  rw [hk]
  exact ⟨Nat.le_refl _, F9.out.2.2.2⟩
end
end Go.Proofs.Ytkooihniieepcaa
