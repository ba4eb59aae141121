/-
  A store's Put and Read in plain words: a store that keeps bytes of the stream T.
  move.Moving: Hand.
-/
import Derived.Test.YtkaaoomliepijaaGreatQRv
import Derived.Test.YtkaaoomliepijaaGreatQPoA
namespace Go.Proofs.YtkaaoomliepijaaGreat
open Go.RowKit
set_option linter.unusedVariables false

/-- What a store keeps of the stream T. -/
def Fs (s : Sr) (T : Nat → Int) : Nat → Option Int := fun x => if s.P x = true then some (T x) else none
theorem Fs_some {s : Sr} {T : Nat → Int} {x : Nat} : (Fs s T x).isSome = true ↔ s.P x = true := by
  unfold Fs
  split
  · rename_i h; simp [h]
  · rename_i h; simp [h]
theorem Fs_val {s : Sr} {T : Nat → Int} {x : Nat} {y : Int} (h : Fs s T x = some y) : y = T x ∧ s.P x = true := by
  unfold Fs at h
  by_cases c : s.P x = true
  · rw [if_pos c] at h; injection h with h; exact ⟨h.symm, c⟩
  · rw [if_neg c] at h; cases h
theorem Fs_none {s : Sr} {T : Nat → Int} {x : Nat} (h : s.P x = false) : Fs s T x = none := by unfold Fs; rw [if_neg (by rw [h]; decide)]
def IsT (T : Nat → Int) : Prop := ∀ x, 0 ≤ T x ∧ T x ≤ 255
/-- The bytes o .. o + n of the stream. -/
def segT (T : Nat → Int) (o n : Nat) : List Int := (List.range n).map fun i => T (o + i)
theorem segT_len (T : Nat → Int) (o n : Nat) : (segT T o n).length = n := by unfold segT; simp
theorem segT_get {T : Nat → Int} {o n i : Nat} (h : i < n) : (segT T o n).getD i 0 = T (o + i) := by
  unfold segT
  rw [List.getD_eq_getElem?_getD, List.getElem?_map, List.getElem?_range h]
  rfl
theorem segT_ext {T : Nat → Int} {o : Nat} {d : List Int} (h : ∀ i, i < d.length → d.getD i 0 = T (o + i)) : d = segT T o d.length := by
  refine List.ext_getElem? fun i => ?_
  by_cases c : i < d.length
  · have := h i c
    rw [List.getD_eq_getElem?_getD, List.getElem?_eq_getElem c] at this
    unfold segT
    rw [List.getElem?_map, List.getElem?_range c, List.getElem?_eq_getElem c]
    simpa using this
  · rw [List.getElem?_eq_none (by omega), List.getElem?_eq_none (by rw [segT_len]; omega)]
theorem segT_isB {T : Nat → Int} (hT : IsT T) (o n : Nat) : IsB (segT T o n) := fun x hx => by
  unfold segT at hx
  obtain ⟨i, _, rfl⟩ := List.mem_map.1 hx
  exact hT _
/-- A store in memory that keeps bytes of the stream. -/
def StT (w : World) (sb mb : Nat) (s : Sr) (T : Nat → Int) : Prop := StAt w sb mb s.off s.nxt (Fs s T)
theorem put_sr (w : World) (sb mb tp o n c : Nat) (a : Option Addr) (s : Sr) (T : Nat → Int) (h : StT w sb mb s T) (hi : SrI s tp) (htp : tp ≤ 1900) (hT : IsT T) (hon : o + n ≤ tp) (hn : n ≤ 100) (hoff : s.off ≤ tp)
    (hd : Sl (Value.int .u8) w a (segT T o n)) (hda : ∀ k, stS sb mb k → n ≠ 0 → (a.getD default).block ≠ k) :
    Calls Tryz.prog 57 #[.pointer (some ⟨sb, 0, none⟩), .agg #[.int .i64 o, .slice a n c, .bool false]] w fun e w' => ∃ k : Int, e = .returned (.tuple #[.int .i64 k, .int .i64 0]) ∧ StT w' sb mb (s.put o n) T ∧ Upd (stS sb mb) w w' := by
  have hx := hi.ntp hoff
  have P := put_st w sb mb s.off s.nxt o c a (Fs s T) (segT T o n) h hd (segT_isB hT o n) (by omega) (by rw [segT_len]; omega) (by omega) (by omega)
    (fun x hx => by have := (hi.win x (Fs_some.1 hx)).2.2; omega) (fun x y hy h1 h2 h3 => by
      rw [segT_len] at h2
      rw [segT_get (by omega), show o + (x - o) = x by omega]; exact (Fs_val hy).1)
    (fun k hk hne => hda k hk (fun e => hne (by subst e; rfl)))
  rw [segT_len] at P
  refine P.mono ?_
  rintro e w' ⟨k, he, nx, h1, h2, h3, h4, h5⟩
  rw [segT_len] at h1 h3 h4
  have eF : putF (Fs s T) o (segT T o n) (max o s.off) (min (o + n) (s.off + 24)) = Fs (s.put o n) T := by
    funext x
    show _ = if s.Pp o n x = true then some (T x) else none
    unfold putF Sr.Pp
    by_cases c1 : max o s.off ≤ x ∧ x < min (o + n) (s.off + 24)
    · rw [if_pos c1, decide_eq_true c1.1, decide_eq_true c1.2, segT_get (by omega), show o + (x - o) = x by omega]
      simp
    · rw [if_neg c1]
      have : (decide (max o s.off ≤ x) && decide (x < min (o + n) (s.off + 24))) = false := by
        rw [Bool.and_eq_false_iff]
        by_cases c2 : max o s.off ≤ x
        · right; exact decide_eq_false (fun e => c1 ⟨c2, e⟩)
        · left; exact decide_eq_false c2
      rw [this, Bool.or_false]
      rfl
  rw [eF] at h1 h3 h4
  obtain ⟨a1, a2, a3⟩ := adv_spec (P := s.Pp o n) (B := s.off + 24) (fun x hx => by
    unfold Sr.Pp at hx
    simp only [Bool.or_eq_true, Bool.and_eq_true, decide_eq_true_eq] at hx
    rcases hx with hx | hx
    · exact (hi.win x hx).2.1
    · omega) 25 s.nxt (by have := hi.le; omega)
  have enx : nx = (s.put o n).nxt := by
    refine adv_uniq (P := s.Pp o n) (k := s.nxt) ?_ h2 (fun x hx1 hx2 => Fs_some.1 (h4 x hx1 hx2)) a1 a2 a3
    cases hp : s.Pp o n nx with
    | false => rfl
    | true => rw [Fs_some.2 (show (s.put o n).P nx = true from hp)] at h3; cases h3
  subst enx
  exact ⟨k, he, h1, h5⟩
end Go.Proofs.YtkaaoomliepijaaGreat
namespace Go.Proofs.YtkaaoomliepijaaGreat
open Go.RowKit
set_option linter.unusedVariables false

/-- Within Hand: the new place's store, the runs. -/
structure HdAt (w wr : World) (eb sb mb s1 m1 : Nat) (p0 : Value) (s : Sr) (T : Nat → Int) (v : Value) (ss : List Sgm) : Prop where
  s : StT wr s1 m1 s T
  b : Blk wr eb 62 (mvC 1 p0 (spV s1))
  o : wr.ownsRow (w.heap.size + 2) 67 3 v ss.length (flS ss)
  d : ∀ s ∈ ss, Rw (Value.int .u8) 5 wr (w.heap.size + 2) (.slice s.a s.d.length s.c) s.d
  u : Upd (fun k => k = eb ∨ stS sb mb k ∨ stS s1 m1 k) w wr
section
variable {w wr w' : World} {eb sb mb s1 m1 : Nat} {p0 v : Value} {s : Sr} {T : Nat → Int} {ss : List Sgm}
theorem HdAt.bel (h : HdAt w wr eb sb mb s1 m1 p0 s T v ss) (q : Below wr.heap.size wr w') : HdAt w w' eb sb mb s1 m1 p0 s T v ss :=
  ⟨h.s.below q, h.b.bel q, own_upd h.o (Upd.of_below (S := fun _ => False) q) (fun _ _ => id), fun x hx => (h.d x hx).upd (S := fun _ => False) (Upd.of_below q) (fun _ _ => id), h.u.then (Upd.of_below (S := fun _ => False) q) (fun _ _ => False.elim)⟩
end
def HdRel (w : World) (eb sb mb s1 m1 tp off : Nat) (T : Nat → Int) (p0 v : Value) (ss : List Sgm) (ix : Value) (wr : World) : Prop :=
  ∃ (k : Nat) (s : Sr), k ≤ ss.length ∧ ix = .int .i64 k ∧ Hid (SrI s tp) ∧ s.off = off ∧ Hid (HdAt w wr eb sb mb s1 m1 p0 s T v ss)
theorem hd_cells {w wr : World} {eb sb mb s1 m1 k g c : Nat} {p0 : Value} {s : Sr} {T : Nat → Int} {ss : List Sgm} {x : Sgm} (hx : ss[k]? = some x) (h : HdAt w wr eb sb mb s1 m1 p0 s T (.slice (some ⟨g, 0, none⟩) ss.length c) ss) :
    wr.cell? ⟨g, k * 3, none⟩ = some (.int .i64 x.o) ∧ wr.cell? ⟨g, k * 3 + 1, none⟩ = some (.slice x.a x.d.length x.c) ∧ wr.cell? ⟨g, k * 3 + 2, none⟩ = some (.bool false) := by
  have A := ownC_all h.o
  have f := flS_get hx
  have a0 := (A _ _ ((f 0 (by omega)).trans rfl)).2
  have a1 := (A _ _ ((f 1 (by omega)).trans rfl)).2
  have a2 := (A _ _ ((f 2 (by omega)).trans rfl)).2
  rw [adr_mk, Nat.zero_add] at a0 a1 a2
  exact ⟨a0, a1, a2⟩
theorem hd_put {w wr : World} {eb sb mb s1 m1 tp : Nat} {p0 v : Value} {s : Sr} {T : Nat → Int} {ss : List Sgm} {x : Sgm} {F : Nat → Option Int} (h : HdAt w wr eb sb mb s1 m1 p0 s T v ss) (hi : SrI s tp) (htp : tp ≤ 1900) (hT : IsT T) (hoff : s.off ≤ tp) (hx : x ∈ ss)
    (hF : ∀ x y, F x = some y → y = T x ∧ x < tp) (hl : x.d.length ≤ 100) (hl1 : 1 ≤ x.d.length) (hd : ∀ i, i < x.d.length → F (x.o + i) = some (x.d.getD i 0)) (hst : ∀ k, stS s1 m1 k → k < w.heap.size ∧ k ≠ eb) :
    Calls Tryz.prog 57 #[.pointer (some ⟨s1, 0, none⟩), .agg #[.int .i64 x.o, .slice x.a x.d.length x.c, .bool false]] wr fun e w' => ∃ k : Int, e = .returned (.tuple #[.int .i64 k, .int .i64 0]) ∧ HdAt w w' eb sb mb s1 m1 p0 (s.put x.o x.d.length) T v ss ∧ Upd (stS s1 m1) wr w' := by
  have e : x.d = segT T x.o x.d.length := segT_ext fun i hi => (hF _ _ (hd i hi)).1
  have ho : x.o + x.d.length ≤ tp := by have := (hF _ _ (hd (x.d.length - 1) (by omega))).2; omega
  have hw := h.d x hx
  have hsl : Sl (Value.int .u8) wr x.a x.d := hw.sl
  have hbk := fun (k : Nat) (hk : (Value.slice x.a x.d.length x.c).ownBlock = some k) => hw.lt hk
  refine (put_sr wr s1 m1 tp x.o x.d.length x.c x.a s T h.s hi htp hT ho hl hoff (by rw [← e]; exact hsl) (fun k hk hn eb => ?_)).mono ?_
  · obtain ⟨g, hg1, hg⟩ : ∃ g, x.a = some ⟨g, 0, none⟩ ∧ w.heap.size + 2 ≤ g := by
      obtain ⟨g, sp, cc, c1, c3, _⟩ := Rw.pos hw (by intro e; rw [e] at hl1; simp at hl1)
      injection c1 with c1 _ _
      exact ⟨g, c1, c3⟩
    have := (hst k hk).1
    rw [hg1] at eb
    simp at eb
    omega
  · rintro e w' ⟨k, rfl, h1, h2⟩
    refine ⟨k, rfl, ⟨h1, h.b.upd h2 (fun e => (hst _ e).2 rfl), own_upd h.o h2 (fun g hg e => by have := (own_lt h.o hg).2; have := (hst g e).1; omega), fun y hy => (h.d y hy).upd h2 (fun k hk e => by have := ((h.d y hy).lt hk).1; have := (hst _ e).1; omega), h.u.then h2 (fun _ _ e => .inr (.inr e))⟩, h2⟩
theorem sg_cells3 (w : World) (o : Nat) (a : Option Addr) (n c : Nat) : Blk (w.alloc (.cells #[.int .i64 o, .slice a n c, .bool false] 67)) w.heap.size 67 [.int .i64 o, .slice a n c, .bool false] := Blk.new w 67 [.int .i64 o, .slice a n c, .bool false]
theorem saH {w7 : World} {eb b7 : Nat} {p0 p1 : Value} (h : Blk w7 eb 62 (mvC 1 p0 p1)) : w7.cell? ⟨eb, 0, none⟩ = some (.int .i64 24) ∧ (w7.setCell ⟨eb, 2, none⟩ (.pointer (some ⟨b7, 0, none⟩))).cell? ⟨eb, 0, none⟩ = some (.int .i64 24) :=
  ⟨h.cell rfl, (h.set 2 (.pointer (some ⟨b7, 0, none⟩))).cell rfl⟩
set_option maxHeartbeats 8000000 in
set_option maxRecDepth 100000 in
theorem hand_mv (w : World) (eb sb mb s1 m1 tp : Nat) (S0 S1 : Sr) (T : Nat → Int) (hb : Blk w eb 62 (mvC 1 (spV sb) (spV s1))) (h0 : StT w sb mb S0 T) (h1 : StT w s1 m1 S1 T) (i0 : SrI S0 tp) (i1 : SrI S1 tp) (htp : tp ≤ 1900) (hT : IsT T) (ho0 : S0.off ≤ tp) (ho1 : S1.off ≤ tp)
    (hdis : ∀ k, stS sb mb k → ¬ stS s1 m1 k ∧ k ≠ eb) (hdis1 : ∀ k, stS s1 m1 k → k ≠ eb) :
    Calls Tryz.prog 46 #[.pointer (some ⟨eb, 0, none⟩)] w fun e w' => ∃ (v p0 : Value) (S' : Sr), e = .returned (.tuple #[v, .int .i64 0]) ∧ SrI S' tp ∧ S'.off = S1.off ∧ StT w' s1 m1 S' T ∧ Blk w' eb 62 (mvC 1 p0 (spV s1)) ∧ Upd (fun k => k = eb ∨ stS sb mb k ∨ stS s1 m1 k) w w' := by
  have hF : Hid (∀ x y, Fs S0 T x = some y → y = T x ∧ x < tp) := fun x y h => ⟨(Fs_val h).1, (i0.win x (Fs_val h).2).2.2⟩
  have hx0 := i0.ntp ho0
  have hl0 := i0.le
  have RU := Lib.hid (fun w' (q : Below w.heap.size w w') => runs_any w' sb mb S0.off S0.nxt (Fs S0 T) (h0.below q) i0.le (fun x a b => Fs_some.2 (i0.all x a b)) (Fs_none i0.nxt) (fun x hx => by have := (i0.win x (Fs_some.1 hx)).2.2; omega) (fun x hx => (i0.win x (Fs_some.1 hx)).2.1) (fun x hx => by
    cases c : S0.P x with
    | false => exact Fs_none c
    | true => have := (i0.win x c).1; omega) (by omega))
  have OF := Lib.hid (fun w' (q : Below w.heap.size w w') => offset_any w' sb mb S0.off S0.nxt _ (h0.below q))
  have EN := Lib.hid (fun w' (q : Below w.heap.size w w') => end_any w' sb mb S0.off S0.nxt _ (h0.below q))
  have EM := Lib.hid (fun w' => empty_ok w' S0.off (by omega))
  have hlt : Hid (∀ k, stS sb mb k ∨ stS s1 m1 k → k < w.heap.size) := fun k hk => hk.elim (fun h => h0.lt h) (fun h => h1.lt h)
  have DI := Lib.hid hdis
  have DI1 := Lib.hid hdis1
  have HB := Lib.hid hb
  have H1 := Lib.hid h1
  have I1 := Lib.hid i1
  have IW := Lib.hid (fun x (hx : S0.P x = true) => i0.win x hx)
  have c0 := hb.cell (i := 0) rfl
  have c1 := hb.cell (i := 1) rfl
  have c2 : w.cell? ⟨eb, 2, none⟩ = some (.pointer (some ⟨sb, 0, none⟩)) := hb.cell (i := 2) rfl
  have bz := hb.lt
  clear hb h0 h1 i0 i1 hdis hdis1
  go_enter Tryz.func46, Tryz.ntmps46
  go_wp2_with fail
  refine (OF.out _ (Below.refl _ _)).mono ?_
  rintro e w1 ⟨rfl, hw⟩
  subst hw
  go_wp2_with fail
  refine (EN.out _ (Below.refl _ _)).mono ?_
  rintro e w1 ⟨rfl, hw⟩
  subst hw
  go_wp2_with fail
  refine (RU.out _ (Below.refl _ _)).mono ?_
  rintro e w1 ⟨v, ss, rfl, hsl, hro, hrd, htl, -, hU1⟩
  have B1 := Lib.hid (HB.out.upd hU1 (fun e => (DI.out _ e).2 rfl))
  have cw := B1.out.cell (i := 0) rfl
  have yf := B1.out.free
  have yz := B1.out.lt
  have RO := Lib.hid hro; have RD := Lib.hid hrd; have TL := Lib.hid htl; have U1 := Lib.hid hU1
  have S1A := Lib.hid (StAt.upd H1.out hU1 (fun k hk e => (DI.out k e).1 hk))
  have hz1 := hU1.size
  clear hro hrd htl hU1 OF EN RU c0 c1 c2
  go_wp2_with fail
  refine wp_region_allH (fun wx => wx.cell? ⟨eb, 0, none⟩ = some (.int .i64 24)) 11 (by kernel_rfl) rfl ?_ (fun hHeld => ?_)
  · (exact cw)
  refine wpAnyH_takeG (i := 0) (v := ?_) rfl (by kernel_rfl) (by kernel_rfl) (by kernel_rfl) (fun _ _ _ h => h) rfl ?_ hHeld ?_
  rotate_left
  · intro w hSw
    try dsimp only at hSw
    go_simp
    all_goals with_reducible rfl
  try simp only [Act.put, List.setIfInBounds_toArray, List.set_cons_zero, List.set_cons_succ]
  refine wpAnyH_takeG (i := 1) (v := ?_) rfl (by kernel_rfl) (by kernel_rfl) (by kernel_rfl) (fun _ _ _ h => h) rfl ?_ hHeld ?_
  rotate_left
  · intro w hSw
    try dsimp only at hSw
    go_simp
    all_goals with_reducible rfl
  try simp only [Act.put, List.setIfInBounds_toArray, List.set_cons_zero, List.set_cons_succ]
  refine wpAnyH_takeG (i := 2) (v := ?_) rfl (by kernel_rfl) (by kernel_rfl) (by kernel_rfl) (fun _ _ _ h => h) rfl ?_ hHeld ?_
  rotate_left
  · intro w hSw
    try dsimp only at hSw
    go_simp
    all_goals with_reducible rfl
  try simp only [Act.put, List.setIfInBounds_toArray, List.set_cons_zero, List.set_cons_succ]
  refine wpAnyH_takeG (i := 3) (v := ?_) rfl (by kernel_rfl) (by kernel_rfl) (by kernel_rfl) (fun _ _ _ h => h) rfl ?_ hHeld ?_
  rotate_left
  · intro w hSw
    try dsimp only at hSw
    go_simp
    all_goals with_reducible rfl
  try simp only [Act.put, List.setIfInBounds_toArray, List.set_cons_zero, List.set_cons_succ]
  refine wpAnyH_takeG (i := 4) (v := ?_) rfl (by kernel_rfl) (by kernel_rfl) (by kernel_rfl) (fun _ _ _ h => h) rfl ?_ hHeld ?_
  rotate_left
  · intro w hSw
    try dsimp only at hSw
    go_simp
    all_goals with_reducible rfl
  try simp only [Act.put, List.setIfInBounds_toArray, List.set_cons_zero, List.set_cons_succ]
  refine wpAnyH_takeG (i := 5) (v := ?_) rfl (by kernel_rfl) (by kernel_rfl) (by kernel_rfl) (fun _ _ _ h => h) rfl ?_ hHeld ?_
  rotate_left
  · intro w hSw
    try dsimp only at hSw
    go_simp
    all_goals with_reducible rfl
  try simp only [Act.put, List.setIfInBounds_toArray, List.set_cons_zero, List.set_cons_succ]
  refine wpAnyH_takeG (i := 7) (v := ?_) rfl (by kernel_rfl) (by kernel_rfl) (by kernel_rfl) (fun _ _ _ h => h) rfl ?_ hHeld ?_
  rotate_left
  · intro w hSw
    try dsimp only at hSw
    go_simp
    all_goals with_reducible rfl
  try simp only [Act.put, List.setIfInBounds_toArray, List.set_cons_zero, List.set_cons_succ]
  refine wpAnyH_takeG (i := 8) (v := ?_) rfl (by kernel_rfl) (by kernel_rfl) (by kernel_rfl) (fun _ _ _ h => h) rfl ?_ hHeld ?_
  rotate_left
  · intro w hSw
    try dsimp only at hSw
    go_simp
    all_goals with_reducible rfl
  try simp only [Act.put, List.setIfInBounds_toArray, List.set_cons_zero, List.set_cons_succ]
  refine wpAnyH_step (i := 6) (by kernel_rfl) rfl (fun KK hK => ?_)
  (go_simp; refine (EM.out _).mono ?_; rintro e w7 ⟨rfl, -, hB⟩; have B7 := Lib.hid (B1.out.bel (below_then (Qt.below (Qt.refl w1).drew _) hB (Nat.le_refl _))); have U7 := Lib.hid (below_then (Qt.below (Qt.refl w1).drew w1.heap.size) hB (Nat.le_refl _)); have X7 := Lib.hid (saH (b7 := w1.heap.size + 1) B7.out); have y3 := B7.out.cell (i := 2) rfl; have yf := B7.out.free; have yz := B7.out.lt; clear hB; go_wp2_with fail)
  refine hK.out _ _ ?_ (fun hHeld => ?_)
  · (first | exact X7.out.1 | exact X7.out.2)
  clear hK KK
  try simp only [Act.put, List.setIfInBounds_toArray, List.set_cons_zero, List.set_cons_succ]
  refine wpAnyH_takeG (i := 9) (v := ?_) rfl (by kernel_rfl) (by kernel_rfl) (by kernel_rfl) (fun _ _ _ h => h) rfl ?_ hHeld ?_
  rotate_left
  · intro w hSw
    try dsimp only at hSw
    go_simp
    all_goals with_reducible rfl
  try simp only [Act.put, List.setIfInBounds_toArray, List.set_cons_zero, List.set_cons_succ]
  refine wpAnyH_step (i := 10) (by kernel_rfl) rfl (fun KK hK => ?_)
  (go_simp)
  refine hK.out _ _ ?_ (fun hHeld => ?_)
  · (first | exact X7.out.1 | exact X7.out.2)
  clear hK KK
  try simp only [Act.put, List.setIfInBounds_toArray, List.set_cons_zero, List.set_cons_succ]
  refine wpAnyH_done (by kernel_rfl) ?_ _
  have us := (Upd.refl (fun k => k = eb) w7).setCell ⟨eb, 2, none⟩ (.pointer (some ⟨w1.heap.size + 1, 0, none⟩)) (fun _ => rfl)
  have ub : Upd (fun k => k = eb) w1 (w7.setCell ⟨eb, 2, none⟩ (.pointer (some ⟨w1.heap.size + 1, 0, none⟩))) := (Upd.of_below U7.out).then us (fun _ _ e => e)
  have T8 : Hid (HdAt w (w7.setCell ⟨eb, 2, none⟩ (.pointer (some ⟨w1.heap.size + 1, 0, none⟩))) eb sb mb s1 m1 (.pointer (some ⟨w1.heap.size + 1, 0, none⟩)) S1 T v ss) := ⟨S1A.out.upd ub (fun k hk => DI1.out k hk), B7.out.set 2 _, own_upd RO.out ub (fun g hg e => by have := (own_lt RO.out hg).2; omega), fun x hx => (RD.out x hx).upd ub (fun k hk e => by have := ((RD.out x hx).lt hk).1; omega),
    (U1.out.mono (fun _ _ e => .inr (.inl e))).then ub (fun _ _ e => .inl e)⟩
  have TL2 : Hid (∀ x ∈ ss, 1 ≤ x.d.length ∧ x.d.length ≤ 100 ∧ ∀ i, i < x.d.length → Fs S0 T (x.o + i) = some (x.d.getD i 0)) := fun x hx => by
    obtain ⟨a1, a2⟩ := TL.out x hx
    refine ⟨a1, ?_, a2⟩
    have b1 := IW.out _ (Fs_val (a2 0 (by omega))).2
    have b2 := IW.out _ (Fs_val (a2 (x.d.length - 1) (by omega))).2
    omega
  obtain ⟨va, vc, rfl, hg0⟩ := own_shape RO.out
  have hlt2 : Hid (∀ k, stS s1 m1 k → k < w.heap.size ∧ k ≠ eb) := fun k hk => ⟨hlt.out k (.inr hk), DI1.out k hk⟩
  generalize w7.setCell ⟨eb, 2, none⟩ (.pointer (some ⟨w1.heap.size + 1, 0, none⟩)) = w8 at *
  clear us ub y3 yf yz B7 U7 X7 S1A RO RD TL U1 B1 cw IW EM hHeld H1 HB DI DI1 hlt
  generalize (Value.pointer (some ⟨w1.heap.size + 1, 0, none⟩)) = p0 at *
  go_wp2_with fail
  go_loopw [91] (fun ix wr => HdRel w eb sb mb s1 m1 tp S1.off T p0 (.slice va ss.length vc) ss ix wr) (fun ix _ => ss.length - (intOf ix).toNat)
  case atStart => exact ⟨0, S1, Nat.zero_le _, rfl, I1, rfl, T8⟩
  case round =>
    clear T8 I1
    obtain ⟨k, s, hk, rfl, I, hso, D⟩ := hrel
    by_cases hkn : k < ss.length
    · rcases hg0 with e0 | ⟨g, rfl⟩
      · omega
      obtain ⟨x, ex⟩ : ∃ x, ss[k]? = some x := ⟨ss[k], by simp [hkn]⟩
      have hxm := List.mem_of_getElem? ex
      obtain ⟨cg0, cg1, cg2⟩ := hd_cells ex D.out
      obtain ⟨t1, t2, t3⟩ := TL2.out x hxm
      have PT := Lib.hid (fun w' (q : Below wr.heap.size wr w') => hd_put (D.out.bel q) I.out htp hT (by omega) hxm hF.out t2 t1 t3 hlt2.out)
      have D9 := Lib.hid (D.out.bel (alloc_belQ wr (.cells #[.int .i64 x.o, .slice x.a x.d.length x.c, .bool false] 67)))
      have c93 : (wr.alloc (.cells #[.int .i64 x.o, .slice x.a x.d.length x.c, .bool false] 67)).cell? ⟨eb, 3, none⟩ = some (.pointer (some ⟨s1, 0, none⟩)) := D9.out.b.cell (i := 3) rfl
      have B9 := Lib.hid (sg_cells3 wr x.o x.a x.d.length x.c)
      have c120 := B9.out.cell (i := 0) rfl
      have c121 := B9.out.cell (i := 1) rfl
      have c122 := B9.out.cell (i := 2) rfl
      have hrz := D.out.b.lt
      replace t3 := Lib.hid t3
      replace ex := Lib.hid ex
      replace hxm := Lib.hid hxm
      have I9 := Lib.hid (I.out.put (o := x.o) (n := x.d.length) (by have := (hF.out _ _ (t3.out (x.d.length - 1) (by omega))).2; omega)).1
      clear D9
      go_upto_region 20 with (fail)
      refine wp_region_allH (fun wx => wx.cell? ⟨eb, 3, none⟩ = some (.pointer (some ⟨s1, 0, none⟩)) ∧ wx.cell? ⟨wr.heap.size, 0, none⟩ = some (.int .i64 x.o) ∧ wx.cell? ⟨wr.heap.size, 1, none⟩ = some (.slice x.a x.d.length x.c) ∧ wx.cell? ⟨wr.heap.size, 2, none⟩ = some (.bool false)) 7 (by kernel_rfl) rfl ?_ (fun hHeld => ?_)
      · (exact ⟨c93, c120, c121, c122⟩)
      refine wpAnyH_takeG (i := 0) (v := ?_) rfl (by kernel_rfl) (by kernel_rfl) (by kernel_rfl) (fun _ _ _ h => h) rfl ?_ hHeld ?_
      rotate_left
      · intro w hSw
        try dsimp only at hSw
        go_simp
        all_goals with_reducible rfl
      try simp only [Act.put, List.setIfInBounds_toArray, List.set_cons_zero, List.set_cons_succ]
      refine wpAnyH_takeG (i := 1) (v := ?_) rfl (by kernel_rfl) (by kernel_rfl) (by kernel_rfl) (fun _ _ _ h => h) rfl ?_ hHeld ?_
      rotate_left
      · intro w hSw
        try dsimp only at hSw
        go_simp
        all_goals with_reducible rfl
      try simp only [Act.put, List.setIfInBounds_toArray, List.set_cons_zero, List.set_cons_succ]
      refine wpAnyH_takeG (i := 2) (v := ?_) rfl (by kernel_rfl) (by kernel_rfl) (by kernel_rfl) (fun _ _ _ h => h) rfl ?_ hHeld ?_
      rotate_left
      · intro w hSw
        try dsimp only at hSw
        go_simp
        all_goals with_reducible rfl
      try simp only [Act.put, List.setIfInBounds_toArray, List.set_cons_zero, List.set_cons_succ]
      refine wpAnyH_takeG (i := 3) (v := ?_) rfl (by kernel_rfl) (by kernel_rfl) (by kernel_rfl) (fun _ _ _ h => h) rfl ?_ hHeld ?_
      rotate_left
      · intro w hSw
        try dsimp only at hSw
        go_simp
        all_goals with_reducible rfl
      try simp only [Act.put, List.setIfInBounds_toArray, List.set_cons_zero, List.set_cons_succ]
      refine wpAnyH_takeG (i := 4) (v := ?_) rfl (by kernel_rfl) (by kernel_rfl) (by kernel_rfl) (fun _ _ _ h => h) rfl ?_ hHeld ?_
      rotate_left
      · intro w hSw
        try dsimp only at hSw
        go_simp
        all_goals with_reducible rfl
      try simp only [Act.put, List.setIfInBounds_toArray, List.set_cons_zero, List.set_cons_succ]
      refine wpAnyH_takeG (i := 5) (v := ?_) rfl (by kernel_rfl) (by kernel_rfl) (by kernel_rfl) (fun _ _ _ h => h) rfl ?_ hHeld ?_
      rotate_left
      · intro w hSw
        try dsimp only at hSw
        go_simp
        all_goals with_reducible rfl
      try simp only [Act.put, List.setIfInBounds_toArray, List.set_cons_zero, List.set_cons_succ]
      refine wpAnyH_step (i := 6) (by kernel_rfl) rfl (fun KK hK => ?_)
      (go_simp; refine (PT.out _ ?_).mono ?_; (· (repeat' (first | with_reducible assumption | with_reducible exact Below.refl _ _ | with_reducible refine Below.drewQ ?_ | with_reducible refine Below.drewNQ ?_ _ | with_reducible refine Below.setCell ?_ (by dsimp only; omega) _ | with_reducible refine Below.alloc ?_ (by first | omega | (simp; done) | (simp; omega)) _))); rintro e w9 ⟨k9, rfl, hD9, hU9⟩; have D9 := Lib.hid hD9; have B9u := B9.out.drew.upd hU9 (fun e => by have := (hlt2.out _ e).1; have := D.out.u.size; omega); have C9 := Lib.hid ((⟨hD9.b.cell rfl, B9u.cell rfl, B9u.cell rfl, B9u.cell rfl⟩ : w9.cell? ⟨eb, 3, none⟩ = some (.pointer (some ⟨s1, 0, none⟩)) ∧ w9.cell? ⟨wr.heap.size, 0, none⟩ = some (.int .i64 x.o) ∧ w9.cell? ⟨wr.heap.size, 1, none⟩ = some (.slice x.a x.d.length x.c) ∧ w9.cell? ⟨wr.heap.size, 2, none⟩ = some (.bool false))); clear hD9 hU9 B9u; go_wp2_with fail)
      refine hK.out _ _ ?_ (fun hHeld => ?_)
      · (first | exact ⟨c93, c120, c121, c122⟩ | exact C9.out)
      clear hK KK
      try simp only [Act.put, List.setIfInBounds_toArray, List.set_cons_zero, List.set_cons_succ]
      refine wpAnyH_done (by kernel_rfl) ?_ _
      clear c93 c120 c121 c122 cg0 cg1 cg2 PT hHeld C9 B9 D
      go_wp2_with fail
      go_roundw
      case rel => exact ⟨k + 1, s.put x.o x.d.length, by omega, by go_num, I9, hso, D9⟩
      case measure => simp [intOf]; omega
    · go_wp2_with fail
      go_ret2
      exact ⟨_, p0, s, rfl, I.out, hso, D.out.s, D.out.b, D.out.u⟩
end Go.Proofs.YtkaaoomliepijaaGreat
