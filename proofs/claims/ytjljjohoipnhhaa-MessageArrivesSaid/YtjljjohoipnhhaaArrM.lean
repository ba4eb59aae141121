/-
  A box, a gate, what came out, and the data that were put: memory for MessageArrives.
-/
import Derived.Test.YtjljjohoipnhhaaArrP
import Derived.Test.YtjljjohoipnhhaaGateO
namespace Go.Proofs.Ytjljjohoipnhhaa
open Go.RowKit
set_option linter.unusedVariables false

def ft5 (a b c d e : Nat → Prop) : Fin 5 → Nat → Prop := fun i => match i with | 0 => a | 1 => b | 2 => c | 3 => d | 4 => e
theorem fin5 : ∀ j : Fin 5, j = 0 ∨ j = 1 ∨ j = 2 ∨ j = 3 ∨ j = 4 := by decide
/-- Sets of blocks below n that have nothing in common. -/
structure Ap (n : Nat) (P : Fin 5 → Nat → Prop) : Prop where
  dj : ∀ i j, i ≠ j → ∀ k, P i k → ¬ P j k
  lt : ∀ i k, P i k → k < n
theorem Ap.chg {n n' : Nat} {P P' : Fin 5 → Nat → Prop} (h : Ap n P) (hn : n ≤ n') (i0 : Fin 5) (hP : ∀ j, j ≠ i0 → ∀ k, P' j k → P j k) (h0 : ∀ k, P' i0 k → (P i0 k ∨ n ≤ k) ∧ k < n') : Ap n' P' := by
  refine ⟨fun i j hij k hi hj => ?_, fun i k hi => ?_⟩
  · by_cases ei : i = i0
    · subst ei
      have hj' := hP j (fun e => hij e.symm) k hj
      rcases (h0 k hi).1 with h1 | h1
      · exact h.dj i j hij k h1 hj'
      · have := h.lt j k hj'; omega
    · have hi' := hP i ei k hi
      by_cases ej : j = i0
      · subst ej
        rcases (h0 k hj).1 with h1 | h1
        · exact h.dj i j hij k hi' h1
        · have := h.lt i k hi'; omega
      · exact h.dj i j hij k hi' (hP j ej k hj)
  · by_cases ei : i = i0
    · subst ei; exact (h0 k hi).2
    · have := h.lt i k (hP i ei k hi); omega
theorem Ap.more {n n' : Nat} {P : Fin 5 → Nat → Prop} (h : Ap n P) (hn : n ≤ n') : Ap n' P := ⟨h.dj, fun i k hi => Nat.lt_of_lt_of_le (h.lt i k hi) hn⟩
def ownS (v : Value) (k : Nat) : Prop := v.ownBlock = some k
def RSet (yrs drs : List RwB) (k : Nat) : Prop := ∃ r, (r ∈ yrs ∨ r ∈ drs) ∧ r.blk = k
structure ArM (W w : World) (B gb : Nat) (ms : List Msg) (F : Nat → Prop) (rv : Value) (rest : List Int) (last : Int) (yv : Value) (yrs : List RwB) (dv : Value) (drs : List RwB) : Prop where
  m : BoxM w B B 1000 ms F
  g : GateAt w B gb rv rest last false
  yl : Vw RwB.val 22 w B yv yrs
  yr : ∀ r ∈ yrs, Sl (Value.int .u8) w r.a r.d ∧ r.d ≠ [] ∧ B ≤ r.blk
  dl : Vw RwB.val 22 w B dv drs
  dr : ∀ r ∈ drs, Sl (Value.int .u8) w r.a r.d ∧ r.d ≠ [] ∧ B ≤ r.blk
  ap : Ap w.heap.size (ft5 F (gateS gb rv) (ownS yv) (ownS dv) (RSet yrs drs))
  bel : Below W.heap.size W w
  hB : W.heap.size ≤ B
  hw : B ≤ w.heap.size
section
variable {W w w' w1 w2 : World} {B gb : Nat} {ms ms' : List Msg} {F F' : Nat → Prop} {rv rv' yv yv' dv dv' lv : Value} {rest rest' : List Int} {last last' : Int} {yrs drs zs : List RwB}
theorem ArM.upd (h : ArM W w B gb ms F rv rest last yv yrs dv drs) {S : Nat → Prop} (u : Upd S w w') (hs : ∀ k, S k → B ≤ k) (h0 : ∀ k, F k → ¬ S k) (h1 : ∀ k, gateS gb rv k → ¬ S k) (h2 : ∀ k, ownS yv k → ¬ S k) (h3 : ∀ k, ownS dv k → ¬ S k) (h4 : ∀ k, RSet yrs drs k → ¬ S k) :
    ArM W w' B gb ms F rv rest last yv yrs dv drs :=
  ⟨h.m.upd u h0, h.g.upd u (h1 gb (.inl rfl)) fun k hk => h1 k (.inr hk), h.yl.upd u h2, fun r hr => ⟨(h.yr r hr).1.upd u fun _ => h4 _ ⟨r, .inl hr, rfl⟩, (h.yr r hr).2⟩, h.dl.upd u h3,
    fun r hr => ⟨(h.dr r hr).1.upd u fun _ => h4 _ ⟨r, .inr hr, rfl⟩, (h.dr r hr).2⟩, h.ap.more u.size, Upd.below h.bel u h.bel.size fun k hk => Nat.le_trans h.hB (hs k hk), h.hB, Nat.le_trans h.hw u.size⟩
theorem ArM.below (h : ArM W w B gb ms F rv rest last yv yrs dv drs) (q : Below w.heap.size w w') : ArM W w' B gb ms F rv rest last yv yrs dv drs :=
  h.upd (S := fun _ => False) (Upd.of_below q) (fun _ h => h.elim) (fun _ _ => id) (fun _ _ => id) (fun _ _ => id) (fun _ _ => id) (fun _ _ => id)
/-- The box has changed. -/
theorem ArM.box (h : ArM W w B gb ms F rv rest last yv yrs dv drs) (hm : BoxM w' B B 1000 ms' F') (u : Upd F w w') (hF : ∀ k, F' k → F k ∨ w.heap.size ≤ k) : ArM W w' B gb ms' F' rv rest last yv yrs dv drs := by
  have h1 := fun k hk => h.ap.dj 1 0 (by decide) k hk
  have h2 := fun k hk => h.ap.dj 2 0 (by decide) k hk
  have h3 := fun k hk => h.ap.dj 3 0 (by decide) k hk
  have h4 := fun k hk => h.ap.dj 4 0 (by decide) k hk
  refine ⟨hm, h.g.upd u (h1 gb (.inl rfl)) fun k hk => h1 k (.inr hk), h.yl.upd u h2, fun r hr => ⟨(h.yr r hr).1.upd u fun _ => h4 _ ⟨r, .inl hr, rfl⟩, (h.yr r hr).2⟩, h.dl.upd u h3,
    fun r hr => ⟨(h.dr r hr).1.upd u fun _ => h4 _ ⟨r, .inr hr, rfl⟩, (h.dr r hr).2⟩, h.ap.chg u.size 0 ?_ ?_, Upd.below h.bel u h.bel.size fun k hk => Nat.le_trans h.hB (h.m.lt k hk).1, h.hB, Nat.le_trans h.hw u.size⟩
  · intro j hj k hk
    rcases fin5 j with rfl | rfl | rfl | rfl | rfl
    · exact absurd rfl hj
    · exact hk
    · exact hk
    · exact hk
    · exact hk
  · exact fun k hk => ⟨hF k hk, (hm.lt k hk).2⟩
/-- The gate has taken bytes. -/
theorem ArM.push (h : ArM W w B gb ms F rv rest last yv yrs dv drs) (hg : GateAt w' B gb rv' rest' last' false) (ho : ∀ k, rv'.ownBlock = some k → rv.ownBlock = some k ∨ w.heap.size ≤ k) (u : Upd (gateS gb rv) w w') : ArM W w' B gb ms F rv' rest' last' yv yrs dv drs := by
  have h0 := fun k hk => h.ap.dj 0 1 (by decide) k hk
  have h2 := fun k hk => h.ap.dj 2 1 (by decide) k hk
  have h3 := fun k hk => h.ap.dj 3 1 (by decide) k hk
  have h4 := fun k hk => h.ap.dj 4 1 (by decide) k hk
  refine ⟨h.m.upd u h0, hg, h.yl.upd u h2, fun r hr => ⟨(h.yr r hr).1.upd u fun _ => h4 _ ⟨r, .inl hr, rfl⟩, (h.yr r hr).2⟩, h.dl.upd u h3,
    fun r hr => ⟨(h.dr r hr).1.upd u fun _ => h4 _ ⟨r, .inr hr, rfl⟩, (h.dr r hr).2⟩, h.ap.chg u.size 1 ?_ ?_, Upd.below h.bel u h.bel.size fun k hk => Nat.le_trans h.hB (h.g.lt hk).1, h.hB, Nat.le_trans h.hw u.size⟩
  · intro j hj k hk
    rcases fin5 j with rfl | rfl | rfl | rfl | rfl
    · exact hk
    · exact absurd rfl hj
    · exact hk
    · exact hk
    · exact hk
  · intro k hk
    refine ⟨?_, (hg.lt hk).2⟩
    rcases hk with hk | hk
    · exact .inl (.inl hk)
    · exact (ho k hk).imp .inr id
/-- What came out is added to the list. -/
theorem ArM.app (h : ArM W w B gb ms F rv rest last yv yrs dv drs) {n : Nat} (hz : RowsAt w n lv zs) (ha : Ap n (ft5 F (gateS gb rv) (ownS yv) (ownS dv) (RSet yrs drs))) (hn : B ≤ n)
    (hv : Vw RwB.val 22 w' B yv' (yrs ++ zs)) (u : Upd (fun k => yv.ownBlock = some k) w w') (ho : yv'.ownBlock = yv.ownBlock ∨ ∀ g, yv'.ownBlock = some g → w.heap.size ≤ g) : ArM W w' B gb ms F rv rest last yv' (yrs ++ zs) dv drs := by
  have h0 := fun k hk => h.ap.dj 0 2 (by decide) k hk
  have h1 := fun k hk => h.ap.dj 1 2 (by decide) k hk
  have h3 := fun k hk => h.ap.dj 3 2 (by decide) k hk
  have h4 := fun k hk => h.ap.dj 4 2 (by decide) k hk
  have hzl : ∀ r ∈ zs, r.blk < w.heap.size := fun r hr => hz.old hr
  have hzn : ∀ r ∈ zs, n ≤ r.blk := fun r hr => (hz.rd r hr).2.2
  have a1 : Ap w.heap.size (ft5 F (gateS gb rv) (ownS yv) (ownS dv) (RSet (yrs ++ zs) drs)) := by
    refine ⟨?_, ?_⟩
    · have hN : ∀ i : Fin 5, i ≠ 4 → ∀ k, ft5 F (gateS gb rv) (ownS yv) (ownS dv) (RSet (yrs ++ zs) drs) i k → ft5 F (gateS gb rv) (ownS yv) (ownS dv) (RSet yrs drs) i k := by
        intro j hj k hk
        rcases fin5 j with rfl | rfl | rfl | rfl | rfl
        · exact hk
        · exact hk
        · exact hk
        · exact hk
        · exact absurd rfl hj
      have hR : ∀ k, RSet (yrs ++ zs) drs k → RSet yrs drs k ∨ n ≤ k := by
        rintro k ⟨r, hr, rfl⟩
        rcases hr with hr | hr
        · rcases List.mem_append.1 hr with hr | hr
          · exact .inl ⟨r, .inl hr, rfl⟩
          · exact .inr (hzn r hr)
        · exact .inl ⟨r, .inr hr, rfl⟩
      intro i j hij k hi hj
      by_cases ei : i = 4
      · subst ei
        have hj' := hN j (fun e => hij e.symm) k hj
        rcases hR k hi with e | e
        · exact ha.dj 4 j hij k e hj'
        · have := ha.lt j k hj'; omega
      · have hi' := hN i ei k hi
        by_cases ej : j = 4
        · subst ej
          rcases hR k hj with e | e
          · exact ha.dj i 4 hij k hi' e
          · have := ha.lt i k hi'; omega
        · exact ha.dj i j hij k hi' (hN j ej k hj)
    · intro i k hk
      match i with
      | 0 => exact h.ap.lt 0 k hk
      | 1 => exact h.ap.lt 1 k hk
      | 2 => exact h.ap.lt 2 k hk
      | 3 => exact h.ap.lt 3 k hk
      | 4 =>
        obtain ⟨r, hr, rfl⟩ := hk
        rcases hr with hr | hr
        · rcases List.mem_append.1 hr with hr | hr
          · exact h.ap.lt 4 _ ⟨r, .inl hr, rfl⟩
          · exact hzl r hr
        · exact h.ap.lt 4 _ ⟨r, .inr hr, rfl⟩
  refine ⟨h.m.upd u h0, h.g.upd u (h1 gb (.inl rfl)) fun k hk => h1 k (.inr hk), hv, ?_, h.dl.upd u h3, fun r hr => ⟨(h.dr r hr).1.upd u fun _ => h4 _ ⟨r, .inr hr, rfl⟩, (h.dr r hr).2⟩,
    a1.chg u.size 2 ?_ ?_, Upd.below h.bel u h.bel.size fun k hk => Nat.le_trans h.hB (h.yl.lt hk).1, h.hB, Nat.le_trans h.hw u.size⟩
  · intro r hr
    rcases List.mem_append.1 hr with hr | hr
    · exact ⟨(h.yr r hr).1.upd u fun _ => h4 _ ⟨r, .inl hr, rfl⟩, (h.yr r hr).2⟩
    · refine ⟨(hz.rd r hr).1.upd u fun _ e => ?_, (hz.rd r hr).2.1, Nat.le_trans hn (hzn r hr)⟩
      have h5 := ha.lt 2 _ e
      have h6 := hzn r hr
      unfold RwB.blk at h6
      omega
  · intro j hj k hk
    rcases fin5 j with rfl | rfl | rfl | rfl | rfl
    · exact hk
    · exact hk
    · exact absurd rfl hj
    · exact hk
    · exact hk
  · intro k hk
    refine ⟨?_, (hv.lt hk).2⟩
    rcases ho with e | e
    · exact .inl (show yv.ownBlock = some k by rw [← e]; exact hk)
    · exact .inr (e k hk)
/-- Data were put: a copy of them in a new block. -/
theorem ArM.data (h : ArM W w B gb ms F rv rest last yv yrs dv drs) {x : RwB} (q : Below w.heap.size w w1) (hx : Sl (Value.int .u8) w1 x.a x.d) (hd : x.d ≠ []) (hb : w.heap.size ≤ x.blk) (q2 : Below w1.heap.size w1 w2)
    (hv : Vw RwB.val 22 w' B dv' (drs ++ [x])) (u : Upd (fun k => dv.ownBlock = some k) w2 w') (ho : dv'.ownBlock = dv.ownBlock ∨ ∀ g, dv'.ownBlock = some g → w2.heap.size ≤ g) : ArM W w' B gb ms F rv rest last yv yrs dv' (drs ++ [x]) := by
  have H := (h.below q).below q2
  have h0 := fun k hk => H.ap.dj 0 3 (by decide) k hk
  have h1 := fun k hk => H.ap.dj 1 3 (by decide) k hk
  have h2 := fun k hk => H.ap.dj 2 3 (by decide) k hk
  have h4 := fun k hk => H.ap.dj 4 3 (by decide) k hk
  have hxl : x.blk < w1.heap.size := hx.old hd
  have s12 := q2.size
  have a1 : Ap w2.heap.size (ft5 F (gateS gb rv) (ownS yv) (ownS dv) (RSet yrs (drs ++ [x]))) := by
    refine h.ap.chg (Nat.le_trans q.size q2.size) 4 ?_ ?_
    · intro j hj k hk
      rcases fin5 j with rfl | rfl | rfl | rfl | rfl
      · exact hk
      · exact hk
      · exact hk
      · exact hk
      · exact absurd rfl hj
    · rintro k ⟨r, hr, rfl⟩
      have old : RSet yrs drs r.blk → (RSet yrs drs r.blk ∨ w.heap.size ≤ r.blk) ∧ r.blk < w2.heap.size := fun hk => ⟨.inl hk, by
        have := h.ap.lt 4 _ hk
        have := q.size
        omega⟩
      rcases hr with hr | hr
      · exact old ⟨r, .inl hr, rfl⟩
      · rcases List.mem_append.1 hr with hr | hr
        · exact old ⟨r, .inr hr, rfl⟩
        · obtain rfl := List.mem_singleton.1 hr
          exact ⟨.inr hb, by omega⟩
  refine ⟨H.m.upd u h0, H.g.upd u (h1 gb (.inl rfl)) fun k hk => h1 k (.inr hk), H.yl.upd u h2, fun r hr => ⟨(H.yr r hr).1.upd u fun _ => h4 _ ⟨r, .inl hr, rfl⟩, (H.yr r hr).2⟩, hv, ?_,
    a1.chg u.size 3 ?_ ?_, Upd.below H.bel u H.bel.size fun k hk => Nat.le_trans H.hB (H.dl.lt hk).1, H.hB, Nat.le_trans H.hw u.size⟩
  · intro r hr
    rcases List.mem_append.1 hr with hr | hr
    · exact ⟨(H.dr r hr).1.upd u fun _ => h4 _ ⟨r, .inr hr, rfl⟩, (H.dr r hr).2⟩
    · obtain rfl := List.mem_singleton.1 hr
      refine ⟨(hx.below q2).upd u fun _ e => ?_, hd, Nat.le_trans h.hw hb⟩
      have := h.ap.lt 3 _ e
      unfold RwB.blk at hb
      omega
  · intro j hj k hk
    rcases fin5 j with rfl | rfl | rfl | rfl | rfl
    · exact hk
    · exact hk
    · exact hk
    · exact absurd rfl hj
    · exact hk
  · intro k hk
    refine ⟨?_, (hv.lt hk).2⟩
    rcases ho with e | e
    · exact .inl (show dv.ownBlock = some k by rw [← e]; exact hk)
    · exact .inr (e k hk)
theorem ArM.start (hm : BoxM w B B 1000 ms F) (hg : GateAt w B gb rv rest last false) (hF : ∀ k, F k → ¬ gateS gb rv k) (bel : Below W.heap.size W w) (hB : W.heap.size ≤ B) (hw : B ≤ w.heap.size) : ArM W w B gb ms F rv rest last (.slice none 0 0) [] (.slice none 0 0) [] := by
  refine ⟨hm, hg, Vw.nil _ _ _ _, (fun r hr => by cases hr), Vw.nil _ _ _ _, (fun r hr => by cases hr), ⟨?_, ?_⟩, bel, hB, hw⟩
  · have e2 : ∀ k, ¬ ownS (.slice none 0 0) k := fun k e => by cases e
    have e4 : ∀ k, ¬ RSet [] [] k := by
      rintro k ⟨r, hr, _⟩
      rcases hr with hr | hr <;> cases hr
    intro i j hij k hi hj
    rcases fin5 i with rfl | rfl | rfl | rfl | rfl
    · rcases fin5 j with rfl | rfl | rfl | rfl | rfl
      · exact hij rfl
      · exact hF k hi hj
      · exact e2 k hj
      · exact e2 k hj
      · exact e4 k hj
    · rcases fin5 j with rfl | rfl | rfl | rfl | rfl
      · exact hF k hj hi
      · exact hij rfl
      · exact e2 k hj
      · exact e2 k hj
      · exact e4 k hj
    · exact e2 k hi
    · exact e2 k hi
    · exact e4 k hi
  · intro i k hk
    match i with
    | 0 => exact (hm.lt k hk).2
    | 1 => exact (hg.lt hk).2
    | 2 => cases hk
    | 3 => cases hk
    | 4 =>
      obtain ⟨r, hr, _⟩ := hk
      rcases hr with hr | hr <;> cases hr
end
end Go.Proofs.Ytjljjohoipnhhaa
