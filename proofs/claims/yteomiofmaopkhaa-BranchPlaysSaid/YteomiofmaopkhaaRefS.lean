/-
  Contract of the reference's Step.
-/
import Derived.Test.YteomiofmaopkhaaRefP
import Derived.Test.YteomiofmaopkhaaPlayP
namespace Go.Proofs.Yteomiofmaopkhaa
open Go.RowKit
set_option linter.unusedVariables false

theorem RfAt.upd2 {w w' : World} {base rb : Nat} {o room : Int} {v : Value} {rs : List RF} {freed : Int} {S : Nat → Prop} (h : RfAt w base rb o room v rs freed) (u : Upd S w w')
    (h1 : ¬ S rb) (h2 : ∀ g, v.ownBlock = some g → ¬ S g) (h3 : ∀ g cs, Blk w g 3 cs → ¬ S g) : RfAt w' base rb o room v rs freed := by
  refine ⟨h.hb.upd u h1, own_upd h.own u h2, fun r hr => own_upd (h.rows r hr) u fun g hg => ?_, h.bb⟩
  obtain ⟨cs, hb, _⟩ := own_ty (h.rows r hr) hg
  exact h3 g cs hb
/-- The memory of the loop at output k. -/
structure SrM (w : World) (base rb : Nat) (o room : Int) (v : Value) (freed : Int) (k : Nat) (ids : List Int) (rs : List RF) (lv : Value) (wr : World) : Prop where
  hk : ids.length = k
  hF : RfAt wr base rb o room v rs freed
  ho : wr.ownsRow w.heap.size 3 1 lv k (ids.map (Value.int .i64))
  hl : ∀ r ∈ rs, r.l.length ≤ 1000
  u : Upd (rfS rb v) w wr
  dj : ∀ r ∈ rs, ∀ g, r.lv.ownBlock = some g → lv.ownBlock ≠ some g
section
variable {w wr w1 : World} {base rb : Nat} {o room : Int} {v : Value} {freed : Int} {k : Nat} {ids : List Int} {rs : List RF} {lv : Value}
theorem SrM.below (h : SrM w base rb o room v freed k ids rs lv wr) (q : Below wr.heap.size wr w1) : SrM w base rb o room v freed k ids rs lv w1 :=
  ⟨h.hk, h.hF.below q, own_upd (S := fun _ => False) h.ho (Upd.of_below q) (fun _ _ => id), h.hl, Upd.then h.u (Upd.of_below (S := rfS rb v) q) (fun _ _ h => h), h.dj⟩
theorem SrM.app (h : SrM w base rb o room v freed k ids rs lv wr) (hb0 : ∀ g, rfS rb v g → g < w.heap.size) {o1 : Obj} {g cap : Nat} {x : Int} (hgr : (wr.alloc o1).grownBy w1 lv.ownBlock)
    (hown : w1.ownsRow w.heap.size 3 1 (.slice (some ⟨g, 0, none⟩) (k + 1) cap) (k + 1) (ids.map (Value.int .i64) ++ [.int .i64 x])) (hat : lv.ownBlock = some g ∨ g = wr.heap.size + 1) :
    SrM w base rb o room v freed (k + 1) (ids ++ [x]) rs (.slice (some ⟨g, 0, none⟩) (k + 1) cap) w1 := by
  have q := (Below.refl wr.heap.size wr).alloc (Nat.le_refl _) o1
  have hf1 := h.hF.below q
  have ho1 : (wr.alloc o1).ownsRow w.heap.size 3 1 lv k (ids.map (Value.int .i64)) := own_upd (S := fun _ => False) h.ho ((Upd.refl _ _).alloc _) (fun _ _ => id)
  have u : Upd (fun g => lv.ownBlock = some g) (wr.alloc o1) w1 := ⟨hgr.os, hgr.tape, hgr.output, hgr.size, fun i hi hs => hgr.block i hi (fun e => hs e.symm)⟩
  have hn : ∀ g, lv.ownBlock = some g → w.heap.size ≤ g := fun g hg => (own_lt ho1 hg).2
  refine ⟨by simp [h.hk], ⟨hf1.hb.upd u (fun hg => by have := hn _ hg; have := hb0 rb (.inl rfl); omega), own_upd hf1.own u (fun g hg hs => by have := hn _ hs; have := hb0 g (.inr hg); omega), fun r hr => own_upd (hf1.rows r hr) u (fun g hg hs => h.dj r hr g hg hs), hf1.bb⟩,
    by rw [List.map_append]; exact hown, h.hl, Upd.then (h.u.alloc o1) u (fun i hi hg => by have := hn i hg; omega), fun r hr j hj => ?_⟩
  intro e
  simp [Value.ownBlock] at e
  subst e
  rcases hat with h1 | h1
  · exact h.dj r hr _ hj h1
  · have := (own_lt (h.hF.rows r hr) hj).1; omega
/-- An output is struck from frame i. -/
theorem SrM.cut (h : SrM w base rb o room v freed k ids rs lv wr) (hb0 : ∀ g, rfS rb v g → g < w.heap.size) {i : Nat} {x : RF} (hx : rs[i]? = some x) (q : Below wr.heap.size wr w1) {a : Option Addr} {c g n cap : Nat} {l : List Int}
    (hv : v = .slice (some ⟨g, 0, none⟩) n cap) (hbase : base ≤ wr.heap.size) (hrw : Rw (Value.int .i64) 3 w1 wr.heap.size (.slice a l.length c) l) (hll : l.length ≤ 1000) :
    SrM w base rb o room v freed k ids (rs.set i ⟨x.id, a, c, l⟩) lv (w1.setCell ⟨g, i * 2 + 1, none⟩ (.slice a l.length c)) := by
  have h1 := h.below q
  have u : Upd (fun j => j = g) w1 (w1.setCell ⟨g, i * 2 + 1, none⟩ (.slice a l.length c)) := (Upd.refl _ _).setCell _ _ (fun _ => rfl)
  obtain ⟨g', sp, c', hv', hbg, hbk, hnl, hcap, hcm⟩ := ownR_blk h1.hF.own (by intro e; rw [e] at hx; simp at hx)
  rw [hv] at hv'
  cases hv'
  have hgrb : g ≠ rb := by
    intro e
    rw [e] at hbk
    exact absurd (blk_ty hbk h1.hF.hb) (by decide)
  have hint : ∀ j cs, Blk w1 j 3 cs → j ≠ g := fun j cs hb e => by
    rw [e] at hb
    exact absurd (blk_ty hbk hb) (by decide)
  have hlen := crs_len rs
  have hil := get_lt hx
  have hnew : w1.ownsRow base 3 1 (.slice a l.length c) l.length (l.map (Value.int .i64)) := own_base hrw.own hbase
  refine ⟨h.hk, ⟨h1.hF.hb.upd u (Ne.symm hgrb), ?_, ?_, h1.hF.bb⟩, own_upd h1.ho u (fun j hj => ?_), ?_, Upd.then h1.u u (fun j _ e => .inr (by rw [e, hv]; rfl)), ?_⟩
  · have h2 := hbk.set (i * 2 + 1) (.slice a l.length c)
    rw [List.set_append_left _ _ (by omega), crs_setB hx] at h2
    have hl2 := crs_len (rs.set i ⟨x.id, a, c, l⟩)
    rw [hv]
    refine ⟨hl2, .inr ⟨g, cap, _, by rw [List.length_set, hnl], hbg, h2, by rw [List.length_set]; omega, hcm, ?_, ?_⟩⟩
    · simp only [List.size_toArray, List.length_append, hl2, List.length_set]; omega
    · rw [← hl2]; simp
  · intro r hr
    have hr1 : w1.ownsRow base 3 1 r.lv r.l.length (r.l.map (Value.int .i64)) := by
      rcases List.mem_or_eq_of_mem_set hr with hr | rfl
      · exact h1.hF.rows r hr
      · exact hnew
    refine own_upd hr1 u (fun j hj => ?_)
    obtain ⟨cs, hb, _⟩ := own_ty hr1 hj
    exact hint j cs hb
  · obtain ⟨cs, hb, _⟩ := own_ty h1.ho hj
    exact hint j cs hb
  · intro r hr
    rcases List.mem_or_eq_of_mem_set hr with hr | rfl
    · exact h.hl r hr
    · exact hll
  · intro r hr j hj
    rcases List.mem_or_eq_of_mem_set hr with hr | rfl
    · exact h.dj r hr j hj
    · intro e
      have h3 := (own_lt hrw.own hj).2
      have h4 := (own_lt h.ho e).1
      omega
end
theorem RfAt.frame {w : World} {base rb g n c : Nat} {o room : Int} {rs : List RF} {freed : Int} (h : RfAt w base rb o room (.slice (some ⟨g, 0, none⟩) n c) rs freed) {i : Nat} {x : RF} (hx : rs[i]? = some x) :
    w.cell? ⟨g, i * 2 + 1, none⟩ = some (.slice x.a x.l.length x.c) ∧ w.cell? ⟨g, i * 2, none⟩ = some (.int .i64 x.id) ∧ w.frozen? ⟨g, i * 2 + 1, none⟩ = false ∧ w.cell? ⟨rb, 2, none⟩ = some (.slice (some ⟨g, 0, none⟩) n c) := by
  obtain ⟨g', sp, c', e, _, hbk, _⟩ := ownR_blk h.own (by intro e; rw [e] at hx; simp at hx)
  cases e
  exact ⟨hbk.cell (crs_app (crs_get hx).2), hbk.cell (crs_app (crs_get hx).1), hbk.free _, h.hb.cell (i := 2) rfl⟩
def SrRel (w : World) (base rb : Nat) (o : Nat) (room : Int) (v : Value) (freed : Int) (rd : List Bool) (fs0 : List AF) (lv i : Value) (wr : World) : Prop :=
  ∃ (k : Nat) (ids : List Int) (rs : List RF), k ≤ o ∧ i = .int .i64 k ∧ aStepAll rd 0 fs0 = (ids ++ (aStepAll (rd.drop k) k (rs.map ab)).1, (aStepAll (rd.drop k) k (rs.map ab)).2) ∧ rs.length = fs0.length ∧ SrM w base rb o room v freed k ids rs lv wr
def SiRel (wo : World) (k : Nat) (rs : List RF) (idv i : Value) (wr : World) : Prop := ∃ j : Nat, j ≤ rs.length ∧ i = .int .i64 j ∧ idv = .int .i64 (-1) ∧ (∀ (q : Nat) (y : RF), q < j → rs[q]? = some y → ¬ (k : Int) ∈ y.l) ∧ wr = wo
def keepR (rs : List RF) : List RF := rs.filter fun r => decide (0 < r.l.length)
theorem keepR_ab (rs : List RF) : (keepR rs).map ab = aKeep (rs.map ab) := by
  unfold keepR aKeep
  rw [List.filter_map]
  rfl
theorem keepR_yes {rs : List RF} {k : Nat} {x : RF} (h : rs[k]? = some x) (hx : 0 < x.l.length) : keepR (rs.take (k + 1)) = keepR (rs.take k) ++ [x] := by
  unfold keepR
  rw [List.take_add_one, h, List.filter_append]
  simp [hx]
theorem keepR_no {rs : List RF} {k : Nat} {x : RF} (h : rs[k]? = some x) (hx : ¬ 0 < x.l.length) : keepR (rs.take (k + 1)) = keepR (rs.take k) := by
  unfold keepR
  rw [List.take_add_one, h, List.filter_append]
  have : x.l = [] := by simpa using hx
  simp [this]
theorem keepR_len (rs : List RF) (k : Nat) : (keepR (rs.take k)).length ≤ k := by
  unfold keepR
  exact Nat.le_trans (List.length_filter_le _ _) (by simp; omega)
/-- The memory of the last loop. -/
structure SlM (w : World) (base rb : Nat) (o room : Int) (v : Value) (freed : Int) (ids : List Int) (rs : List RF) (lov lv : Value) (k : Nat) (wr : World) : Prop where
  hF : RfAt wr base rb o room v rs (freed + ((k : Int) - (keepR (rs.take k)).length))
  ho : wr.ownsRow w.heap.size 3 1 lov ids.length (ids.map (Value.int .i64))
  hr : wr.ownsRow w.heap.size 67 2 lv (keepR (rs.take k)).length (crs (keepR (rs.take k)))
  u : Upd (rfS rb v) w wr
section
variable {w wr w1 : World} {base rb : Nat} {o room : Int} {v : Value} {freed : Int} {k : Nat} {ids : List Int} {rs : List RF} {lov lv : Value}
theorem SlM.app (h : SlM w base rb o room v freed ids rs lov lv k wr) (hb0 : ∀ g, rfS rb v g → g < w.heap.size) {x : RF} (hx : rs[k]? = some x) (hxl : 0 < x.l.length) {o1 : Obj} {lv' : Value} (hgr : (wr.alloc o1).grownBy w1 lv.ownBlock)
    (hown : w1.ownsRow w.heap.size 67 2 lv' ((keepR (rs.take k)).length + 1) (crs (keepR (rs.take k)) ++ [.int .i64 x.id, x.lv])) : SlM w base rb o room v freed ids rs lov lv' (k + 1) w1 := by
  have q := (Below.refl wr.heap.size wr).alloc (Nat.le_refl _) o1
  have hf1 := h.hF.below q
  have hr1 : (wr.alloc o1).ownsRow w.heap.size 67 2 lv (keepR (rs.take k)).length (crs (keepR (rs.take k))) := own_upd (S := fun _ => False) h.hr ((Upd.refl _ _).alloc _) (fun _ _ => id)
  have ho1 : (wr.alloc o1).ownsRow w.heap.size 3 1 lov ids.length (ids.map (Value.int .i64)) := own_upd (S := fun _ => False) h.ho ((Upd.refl _ _).alloc _) (fun _ _ => id)
  have u : Upd (fun g => lv.ownBlock = some g) (wr.alloc o1) w1 := ⟨hgr.os, hgr.tape, hgr.output, hgr.size, fun i hi hs => hgr.block i hi (fun e => hs e.symm)⟩
  have hn : ∀ g, lv.ownBlock = some g → w.heap.size ≤ g := fun g hg => (own_lt hr1 hg).2
  have hint : ∀ g cs, Blk (wr.alloc o1) g 3 cs → ¬ lv.ownBlock = some g := fun g cs hb e => by
    obtain ⟨cs2, hb2, _⟩ := own_ty hr1 e
    exact absurd (blk_ty hb hb2) (by decide)
  have e := keepR_yes hx hxl
  have hf2 := hf1.upd2 u (fun hg => by have := hn _ hg; have := hb0 rb (.inl rfl); omega) (fun g hg hs => by have := hn _ hs; have := hb0 g (.inr hg); omega) hint
  refine ⟨?_, own_upd ho1 u (fun g hg => by obtain ⟨cs, hb, _⟩ := own_ty ho1 hg; exact hint g cs hb), ?_, Upd.then (h.u.alloc o1) u (fun i hi hg => by have := hn i hg; omega)⟩
  · rw [e, List.length_append]
    rw [show freed + (((k + 1 : Nat) : Int) - (((keepR (rs.take k)).length + [x].length : Nat) : Int)) = freed + ((k : Int) - (keepR (rs.take k)).length) by simp; omega]
    exact hf2
  · rw [e, List.length_append, crs_append]; exact hown
theorem SlM.skip (h : SlM w base rb o room v freed ids rs lov lv k wr) (hb0 : ∀ g, rfS rb v g → g < w.heap.size) {x : RF} (hx : rs[k]? = some x) (hxl : ¬ 0 < x.l.length) :
    SlM w base rb o room v freed ids rs lov lv (k + 1) (wr.setCell ⟨rb, 3, none⟩ (.int .i64 (freed + ((k : Int) - (keepR (rs.take k)).length) + 1))) := by
  have e := keepR_no hx hxl
  have u : Upd (fun j => j = rb) wr (wr.setCell ⟨rb, 3, none⟩ (.int .i64 (freed + ((k : Int) - (keepR (rs.take k)).length) + 1))) := (Upd.refl _ _).setCell _ _ (fun _ => rfl)
  have hne : ∀ T cs g, Blk wr g T cs → T ≠ 42 → ¬ g = rb := fun T cs g hb hT e => by
    rw [e] at hb
    exact hT (blk_ty hb h.hF.hb)
  refine ⟨⟨?_, own_upd h.hF.own u (fun g hg => ?_), fun r hr => own_upd (h.hF.rows r hr) u (fun g hg => ?_), h.hF.bb⟩, own_upd h.ho u (fun g hg => ?_), ?_, Upd.then h.u u (fun j _ e => .inl e)⟩
  · rw [e, show freed + (((k + 1 : Nat) : Int) - ((keepR (rs.take k)).length : Int)) = freed + ((k : Int) - (keepR (rs.take k)).length) + 1 by omega]
    simpa using h.hF.hb.set 3 (.int .i64 (freed + ((k : Int) - (keepR (rs.take k)).length) + 1))
  · obtain ⟨cs, hb, _⟩ := own_ty h.hF.own hg
    exact hne _ cs g hb (by decide)
  · obtain ⟨cs, hb, _⟩ := own_ty (h.hF.rows r hr) hg
    exact hne _ cs g hb (by decide)
  · obtain ⟨cs, hb, _⟩ := own_ty h.ho hg
    exact hne _ cs g hb (by decide)
  · rw [e]
    refine own_upd h.hr u (fun g hg => ?_)
    obtain ⟨cs, hb, _⟩ := own_ty h.hr hg
    exact hne _ cs g hb (by decide)
end
def SkRel (w : World) (base rb : Nat) (o room : Int) (v : Value) (freed : Int) (ids : List Int) (rs : List RF) (lov : Value) (lv i : Value) (wr : World) : Prop :=
  ∃ k : Nat, k ≤ rs.length ∧ i = .int .i64 k ∧ SlM w base rb o room v freed ids rs lov lv k wr
def RStepPost (w : World) (base rb : Nat) (o room : Int) (v : Value) (rs : List RF) (freed : Int) (rd : List Bool) (e : Ending) (w' : World) : Prop :=
  ∃ vo v' rs', e = .returned vo ∧ Rw (Value.int .i64) 3 w' w.heap.size vo (aStepAll rd 0 (rs.map ab)).1 ∧ RfAt w' base rb o room v' rs' (freed + ((rs.length : Int) - rs'.length)) ∧ rs'.map ab = aKeep (aStepAll rd 0 (rs.map ab)).2 ∧ Upd (rfS rb v) w w'
set_option maxHeartbeats 16000000 in
set_option maxRecDepth 100000 in
theorem refStep_any (w : World) (base rb : Nat) (o : Nat) (room : Int) (v : Value) (rs0 : List RF) (freed : Int) (h : RfAt w base rb o room v rs0 freed) (a : Option Addr) (c : Nat) (rd : List Bool) (hs : SlB w a rd) (hn : rd.length = o) (ho : o ≤ 8)
    (hl : rs0.length ≤ 1000) (hll : ∀ r ∈ rs0, r.l.length ≤ 1000) (hfr : 0 ≤ freed) (hfr2 : freed ≤ 1000000000) (hbase : base ≤ w.heap.size) (hap : ¬ rfS rb v (a.getD default).block) :
    Calls Try.prog 21 #[.pointer (some ⟨rb, 0, none⟩), .slice a o c] w (RStepPost w base rb o room v rs0 freed rd) := by
  have H := Lib.hid h; have S := Lib.hid hs; have HN := Lib.hid hn
  have HB0 : Hid (∀ g, rfS rb v g → g < w.heap.size) := fun g hg => by
    rcases hg with rfl | hg
    · exact h.hb.lt
    · exact (own_lt h.own hg).1
  obtain ⟨i0, hi, hz0, hz1, hz2⟩ := info_parts Try.infoRFr
  obtain ⟨j0, ki, kz0, kz1, kz2⟩ := info_parts Try.infoBI
  have HI := Lib.hid hi; have HZ0 := Lib.hid hz0; have HZ1 := Lib.hid hz1; have HZ2 := Lib.hid hz2
  have KI := Lib.hid ki; have KZ0 := Lib.hid kz0; have KZ1 := Lib.hid kz1; have KZ2 := Lib.hid kz2
  obtain ⟨av, cv, hv0, hvg⟩ := own_shape h.own
  subst hv0
  have HVG := Lib.hid hvg
  have M0 : Hid (SrM w base rb o room (.slice av rs0.length cv) freed 0 [] rs0 (.slice none 0 0) w) :=
    ⟨rfl, h, ⟨rfl, .inl ⟨rfl, rfl⟩⟩, hll, Upd.refl _ _, fun r hr g hg e => by simp [Value.ownBlock] at e⟩
  clear h hs hn hi hz0 hz1 hz2 ki kz0 kz1 kz2 hll hvg
  go_enter Try.func21, Try.ntmps21
  go_wp2_with fail
  go_loopw [5, 6] (fun lv i wr => SrRel w base rb o room (.slice av rs0.length cv) freed rd (rs0.map ab) lv i wr) (fun _ i _ => o - (intOf i).toNat)
  case atStart => exact ⟨0, [], rs0, Nat.zero_le _, rfl, by simp, by simp, M0.out⟩
  case round =>
    obtain ⟨k, ids, rs, hk, rfl, hst, hrl, hM⟩ := hrel
    have M := Lib.hid hM; have ST := Lib.hid hst
    have hrl2 : rs.length = rs0.length := by simpa using hrl
    have HRL := Lib.hid hrl2
    have hlen : rs.length ≤ 1000 := by omega
    clear hM hst hrl hrl2 M0
    have q0 := M.out.hF.hb.cell (i := 0) rfl
    have q2 := M.out.hF.hb.cell (i := 2) rfl
    rw [← HRL.out] at q2
    obtain ⟨al, cl, rfl, _⟩ := own_shape M.out.ho
    by_cases hlt : k < o
    · obtain ⟨r, er, okr, cr⟩ := (S.out.upd M.out.u (fun _ => hap)).get (k := k) (by rw [HN.out]; exact hlt)
      have hnext : Hid (aStepAll rd 0 (rs0.map ab) = ((ids ++ [(aStepK k r (rs.map ab)).1]) ++ (aStepAll (rd.drop (k + 1)) (k + 1) (aStepK k r (rs.map ab)).2).1, (aStepAll (rd.drop (k + 1)) (k + 1) (aStepK k r (rs.map ab)).2).2)) := by
        show _ = _
        rw [ST.out, drop_cons er.out]
        simp [aStepAll]
      have FIN : Hid (∀ (x : Int) (ys : List RF) (lv' : Value) (w' : World), aStepK k r (rs.map ab) = (x, ys.map ab) → SrM w base rb o room (.slice av rs0.length cv) freed (k + 1) (ids ++ [x]) ys lv' w' → SrRel w base rb o room (.slice av rs0.length cv) freed rd (rs0.map ab) lv' (.int .i64 ((k + 1 : Nat) : Int)) w') := by
        intro x ys lv' w' e hM
        have hn := hnext.out
        have hln := aStepK_len k r (rs.map ab)
        rw [e] at hn hln
        refine ⟨k + 1, _, ys, by omega, rfl, hn, ?_, hM⟩
        simp at hln ⊢
        rw [hln, HRL.out]
      obtain ⟨wo, rfl⟩ : ∃ wo : World, wo = wr := ⟨_, rfl⟩
      have hsz : w.heap.size ≤ wo.heap.size := M.out.u.size
      go_wp2_with fail
      go_loopw [7, 8] (fun idv i w' => SiRel wo k rs idv i w') (fun _ i _ => rs.length - (intOf i).toNat)
      case atStart => exact ⟨0, Nat.zero_le _, rfl, rfl, fun q y h => by omega, rfl⟩
      case round =>
        obtain ⟨j, hj, rfl, rfl, hno, hww⟩ := hrel
        subst hww
        have NO := Lib.hid hno
        clear hno
        by_cases hjl : j < rs.length
        · cases r with
          | false =>
            go_wp2_with (at_builtin; refine wpList_append_lies _ rfl _ _ 26 rfl w.heap.size 3 j0 _ 1 8 Try.underlying26 KI.out KZ0.out KZ1.out KZ2.out rfl (by decide) _ k (ids.map (Value.int .i64)) rfl ?c0 ⟨wr.heap.size, 0, none⟩ 1 1 [.int .i64 (-1)] rfl ?c1 ?c2 ?c3 (by decide) ?c4 ?c5 ?c6 (wr.heap.size + 1) ?c7 ?_)
            case c0 => exact own_upd (S := fun _ => False) M.out.ho ((Upd.refl _ _).alloc _) (fun _ _ => id)
            case c1 => rfl
            case c2 => exact news_new (vs := [.int .i64 (-1)]) rfl
            case c3 => intro u hu; simp at hu; subst hu; rfl
            case c4 => unfold maxLen; omega
            case c5 => omega
            case c6 => simp; omega
            case c7 => simp
            intro g7 cap7 w7 hown hgr hat hglt
            have F1 := Lib.hid (FIN.out (-1) rs _ w7 (by simp [aStepK]) (M.out.app HB0.out hgr hown hat))
            clear hown hgr hat hglt
            go_wp2_with fail
            go_roundw
            case rel => have := F1.out; simpa using this
            case measure => simp [intOf]; omega
          | true =>
            obtain ⟨x, ex, okx, c1, c2⟩ := (ownR_sl (a := av) (n := rs.length) (c := cv) (by have := M.out.hF.own; rw [← HRL.out] at this; exact this)).get (k := j) hjl
            have hmem := List.mem_of_getElem? ex.out
            have HAS := Lib.hid (has_any wr x.a x.c x.l k (M.out.hF.row hmem) (M.out.hl x hmem))
            have XL := Lib.hid (M.out.hl x hmem)
            clear hmem
            go_wp2_with fail
            refine HAS.out.mono ?_
            rintro e w1 ⟨rfl, rfl⟩
            by_cases hm : (k : Int) ∈ x.l
            · have hd : decide ((k : Int) ∈ x.l) = true := by simpa using hm
              have hsk : Hid (aStepK k true (rs.map ab) = (x.id, (rs.map ab).set j (x.id, woL x.l k))) := by
                show _ = _
                unfold aStepK
                rw [if_pos rfl, aTake_some (i := j) (x := ab x) (by rw [List.getElem?_map, ex.out]; rfl) hm (fun q y hq hy => by
                  rw [List.getElem?_map] at hy
                  obtain ⟨z, hz, rfl⟩ := Option.map_eq_some_iff.1 hy
                  exact NO.out q z hq hz)]
                rfl
              rw [hd]
              clear hd hm HAS
              obtain ⟨gv, rfl⟩ : ∃ gv, av = some ⟨gv, 0, none⟩ := by
                rcases HVG.out with h0 | h0
                · have := HRL.out; omega
                · exact h0
              rw [adr_mk, Nat.zero_add] at c1 c2
              have WO : Hid (∀ w2, RfAt w2 base rb o room (.slice (some ⟨gv, 0, none⟩) rs0.length cv) rs freed → Calls Try.prog 39 #[.slice x.a x.l.length x.c, .int .i64 k] w2 (RwPost (.int .i64) 3 w2 (woL x.l k))) := fun w2 h2 => without_any w2 x.a x.c x.l k (h2.row (List.mem_of_getElem? ex.out)) XL.out
              have hwl : (woL x.l k).length ≤ 1000 := Nat.le_trans (List.length_filter_le _ _) XL.out
              have HWL := Lib.hid hwl
              clear hwl
              generalize woL x.l k = L at *
              have RL0 : Hid (rs.length = rs0.length) := HRL.out
              have f2 := (M.out.hF.frame ex.out).2.2.1
              have hrbl := M.out.hF.hb.lt
              go_wp2_with fail
              go_region_law (first
                | (go_simp; go_at_call 39; refine (WO.out _ (M.out.hF.below ((Qt.refl wr).drew).bel)).mono ?_; rintro e w5 ⟨vv, rfl, hrw, hb⟩; obtain ⟨a5, c5, rfl, hrest⟩ := hrw; have hb5 := ((Qt.refl wr).drew).bel.trans hb; have M5 := Lib.hid (M.out.cut HB0.out ex.out hb5 rfl (by omega) ⟨a5, c5, rfl, hrest⟩ HWL.out); have PH5 := Lib.hid (M.out.hF.below hb5); have hsz5 := hb5.size; clear hb hb5 hrest q2 c1 c2 f2; obtain ⟨c2, c1, f2, q2⟩ := PH5.out.frame ex.out; rw [← RL0.out] at q2))
              all_goals
                clear q2 c1 c2 f2
                generalize w5.setCell ⟨gv, j * 2 + 1, none⟩ (.slice a5 L.length c5) = w6 at *
                have hsz6 : w.heap.size ≤ w6.heap.size := M5.out.u.size
                obtain ⟨xid, xa, xc, xl⟩ := x
                dsimp only at *
                go_wp2_with (at_builtin; refine wpList_append_lies _ rfl _ _ 26 rfl w.heap.size 3 j0 _ 1 8 Try.underlying26 KI.out KZ0.out KZ1.out KZ2.out rfl (by decide) _ k (ids.map (Value.int .i64)) rfl ?c0 ⟨w6.heap.size, 0, none⟩ 1 1 [.int .i64 xid] rfl ?c1 ?c2 ?c3 (by decide) ?c4 ?c5 ?c6 (w6.heap.size + 1) ?c7 ?_)
                case c0 => exact own_upd (S := fun _ => False) M5.out.ho ((Upd.refl _ _).alloc _) (fun _ _ => id)
                case c1 => rfl
                case c2 => exact news_new (vs := [.int .i64 xid]) rfl
                case c3 => intro u hu; simp at hu; subst hu; rfl
                case c4 => unfold maxLen; omega
                case c5 => omega
                case c6 => simp; omega
                case c7 => simp
                intro g7 cap7 w7 hown hgr hat hglt
                have F1 := Lib.hid (FIN.out xid (rs.set j ⟨xid, a5, c5, L⟩) _ w7 (by rw [hsk.out, List.map_set]; rfl) (M5.out.app HB0.out hgr hown hat))
                clear hown hgr hat hglt
                go_wp2_with fail
                go_roundw
                case rel => have := F1.out; simpa using this
                case measure => simp [intOf]; omega
            · have hd : decide ((k : Int) ∈ x.l) = false := by simpa using hm
              have N2 : Hid (∀ (q : Nat) (y : RF), q < j + 1 → rs[q]? = some y → ¬ (k : Int) ∈ y.l) := fun q y hq hy => by
                by_cases e : q < j
                · exact NO.out q y e hy
                · obtain rfl : q = j := by omega
                  rw [ex.out] at hy
                  obtain rfl := Option.some.inj hy
                  exact hm
              rw [hd]
              clear hd hm HAS
              go_wp2_with fail
              go_roundw
              case rel => exact ⟨j + 1, by omega, by go_num, rfl, N2.out, rfl⟩
              case measure => simp [intOf]; omega
        · obtain rfl : j = rs.length := by omega
          have hsk : Hid (aStepK k r (rs.map ab) = (-1, rs.map ab)) := by
            show _ = _
            unfold aStepK
            split
            · rw [aTake_none (fun q y hy => by
                rw [List.getElem?_map] at hy
                obtain ⟨z, hz, rfl⟩ := Option.map_eq_some_iff.1 hy
                exact NO.out q z (get_lt hz) hz)]
              rfl
            · rfl
          go_wp2_with (at_builtin; refine wpList_append_lies _ rfl _ _ 26 rfl w.heap.size 3 j0 _ 1 8 Try.underlying26 KI.out KZ0.out KZ1.out KZ2.out rfl (by decide) _ k (ids.map (Value.int .i64)) rfl ?c0 ⟨wr.heap.size, 0, none⟩ 1 1 [.int .i64 (-1)] rfl ?c1 ?c2 ?c3 (by decide) ?c4 ?c5 ?c6 (wr.heap.size + 1) ?c7 ?_)
          case c0 => exact own_upd (S := fun _ => False) M.out.ho ((Upd.refl _ _).alloc _) (fun _ _ => id)
          case c1 => rfl
          case c2 => exact news_new (vs := [.int .i64 (-1)]) rfl
          case c3 => intro u hu; simp at hu; subst hu; rfl
          case c4 => unfold maxLen; omega
          case c5 => omega
          case c6 => simp; omega
          case c7 => simp
          intro g7 cap7 w7 hown hgr hat hglt
          have F1 := Lib.hid (FIN.out (-1) rs _ w7 (hsk.out) (M.out.app HB0.out hgr hown hat))
          clear hown hgr hat hglt
          go_wp2_with fail
          go_roundw
          case rel => have := F1.out; simpa using this
          case measure => simp [intOf]; omega
    · obtain rfl : k = o := by omega
      have hfin : Hid (aStepAll rd 0 (rs0.map ab) = (ids, rs.map ab)) := by
        show _ = _
        rw [ST.out, List.drop_eq_nil_of_le (by rw [HN.out]; exact Nat.le_refl _)]
        simp [aStepAll]
      have N0 : Hid (SlM w base rb k room (.slice av rs0.length cv) freed ids rs (.slice al k cl) (.slice none 0 0) 0 wr) := by
        refine ⟨?_, by rw [M.out.hk]; exact M.out.ho, ⟨by simp [keepR, crs], .inl ⟨rfl, by simp [keepR, crs]⟩⟩, M.out.u⟩
        have := M.out.hF
        simpa [keepR] using this
      go_wp2_with fail
      clear q0 q2
      go_loopw [9, 10] (fun lv i w' => SkRel w base rb k room (.slice av rs0.length cv) freed ids rs (.slice al k cl) lv i w') (fun _ i _ => rs.length - (intOf i).toNat)
      case atStart => exact ⟨0, Nat.zero_le _, rfl, N0.out⟩
      case round =>
        obtain ⟨j, hj, rfl, hM⟩ := hrel
        have N := Lib.hid hM
        clear hM N0
        have q2 := N.out.hF.hb.cell (i := 2) rfl
        rw [← HRL.out] at q2
        obtain ⟨lr, cr2, rfl, _⟩ := own_shape N.out.hr
        have hkl := keepR_len rs j
        have hsz : w.heap.size ≤ wr.heap.size := N.out.u.size
        by_cases hjl : j < rs.length
        · obtain ⟨x, ex, okx, c1, c2⟩ := (ownR_sl (a := av) (n := rs.length) (c := cv) (by have := N.out.hF.own; rw [← HRL.out] at this; exact this)).get (k := j) hjl
          have APP := Lib.hid (fun (hxl : 0 < x.l.length) o1 lv' w1 hgr hown => N.out.app (w1 := w1) (o1 := o1) (lv' := lv') HB0.out ex.out hxl hgr hown)
          have SKP := Lib.hid (fun (hxl : ¬ 0 < x.l.length) => N.out.skip HB0.out ex.out hxl)
          obtain ⟨xid, xa, xc, xl⟩ := x
          unfold RF.lv at APP
          dsimp only at c1 c2 APP SKP
          generalize xl.length = nx at *
          by_cases hx0 : 0 < nx
          · have APP2 := Lib.hid (APP.out hx0)
            go_wp2_with (at_builtin; refine wpList_append_own _ rfl _ _ 40 rfl w.heap.size 67 i0 _ 2 32 Try.underlying40 HI.out HZ0.out HZ1.out HZ2.out rfl (by decide) _ (keepR (rs.take j)).length (crs (keepR (rs.take j))) rfl ?c0 ⟨wr.heap.size, 0, none⟩ 1 1 [.int .i64 xid, .slice xa nx xc] rfl ?c1 ?c2 ?c3 ?c4 ?c5 ?c6 ?_)
            case c0 => exact own_upd (S := fun _ => False) N.out.hr ((Upd.refl _ _).alloc _) (fun _ _ => id)
            case c1 => rfl
            case c2 => exact news_new (vs := [.int .i64 xid, .slice xa nx xc]) rfl
            case c3 => intro u hu; simp at hu; rcases hu with rfl | rfl <;> rfl
            case c4 => unfold maxLen; omega
            case c5 => omega
            case c6 => simp; omega
            intro v' w7 hown hgr hnil
            have F1 := Lib.hid (APP2.out _ _ _ hgr hown)
            clear hown hgr hnil
            go_wp2_with fail
            go_roundw
            case rel => exact ⟨j + 1, by omega, by go_num, F1.out⟩
            case measure => simp [intOf]; omega
          · have hx1 : nx = 0 := by omega
            subst hx1
            have q3 := N.out.hF.hb.cell (i := 3) rfl
            have f3 := N.out.hF.hb.free 3
            have SK := Lib.hid (SKP.out (by omega))
            go_wp2_with fail
            go_roundw
            case rel => exact ⟨j + 1, by omega, by go_num, SK.out⟩
            case measure => simp [intOf]; omega
        · obtain rfl : j = rs.length := by omega
          have f2 := N.out.hF.hb.free 2
          have FIN : Hid (RStepPost w base rb k room (.slice av rs0.length cv) rs0 freed rd (.returned (.slice al k cl)) (wr.setCell ⟨rb, 2, none⟩ (.slice lr (keepR (rs.take rs.length)).length cr2))) := by
            have u : Upd (fun j => j = rb) wr (wr.setCell ⟨rb, 2, none⟩ (.slice lr (keepR (rs.take rs.length)).length cr2)) := (Upd.refl _ _).setCell _ _ (fun _ => rfl)
            have hne : ∀ T cs g, Blk wr g T cs → T ≠ 42 → ¬ g = rb := fun T cs g hb hT e => by
              rw [e] at hb
              exact hT (blk_ty hb N.out.hF.hb)
            have hkm : ∀ r ∈ keepR (rs.take rs.length), r ∈ rs := fun r hr => List.mem_of_mem_take (List.mem_filter.1 hr).1
            refine ⟨.slice al k cl, .slice lr (keepR (rs.take rs.length)).length cr2, keepR rs, rfl, ?_, ⟨?_, ?_, ?_, N.out.hF.bb⟩, ?_, Upd.then N.out.u u (fun j _ e => .inl e)⟩
            · rw [hfin.out]
              have := own_upd N.out.ho u (fun g hg => by obtain ⟨cs, hb, _⟩ := own_ty N.out.ho hg; exact hne _ cs g hb (by decide))
              exact Rw.of_own this
            · have h1 := N.out.hF.hb.set 2 (.slice lr (keepR (rs.take rs.length)).length cr2)
              rw [List.take_length] at h1 ⊢
              rw [← HRL.out]
              simpa using h1
            · have h1 := own_upd N.out.hr u (fun g hg => by obtain ⟨cs, hb, _⟩ := own_ty N.out.hr hg; exact hne _ cs g hb (by decide))
              rw [List.take_length] at h1 ⊢
              exact own_base h1 hbase
            · intro r hr
              have hr' : r ∈ rs := (List.mem_filter.1 hr).1
              exact own_upd (N.out.hF.rows r hr') u (fun g hg => by obtain ⟨cs, hb, _⟩ := own_ty (N.out.hF.rows r hr') hg; exact hne _ cs g hb (by decide))
            · rw [hfin.out]; exact keepR_ab rs
          have FIN2 : Hid (RStepPost w base rb k room (.slice av rs0.length cv) rs0 freed rd (.returned (.slice al k cl)) (wr.setCell ⟨rb, 2, none⟩ (.slice lr (keepR rs).length cr2))) := by
            have := FIN.out
            rw [List.take_length] at this
            exact this
          go_wp2_with fail
          go_ret
          obtain ⟨vo, v', rs', e, r1, r2⟩ := FIN2.out
          cases e
          exact ⟨_, v', rs', rfl, r1, r2⟩
end Go.Proofs.Yteomiofmaopkhaa
