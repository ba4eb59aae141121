/-
  RingShelves: what holds between the steps: a shelf, and the row of the reference's queues.
-/
import Derived.Test.YtdfncgfcggpgdaaFits
namespace Go.Proofs.Ytdfncgfcggpgdaa
open Go.RowKit
set_option linter.unusedVariables false

theorem Try.infoQu : (Try.prog.info? 51).map (fun i => (i.zero, i.size, i.bytes)) = some (some (.agg #[.int .i64 0, .slice none 0 0]), 2, 32) := by kernel_rfl

structure QE where
  a : Option Addr
  c : Nat
  room : Nat
  xs : List Int
def QE.sl (q : QE) : Value := .slice q.a q.xs.length q.c
def qc : List QE → List Value
  | [] => []
  | q :: l => .int .i64 q.room :: q.sl :: qc l
theorem qc_len (l : List QE) : (qc l).length = l.length * 2 := by
  induction l with
  | nil => rfl
  | cons q l ih => simp [qc, ih]; omega
theorem qc_get {l : List QE} {i : Nat} {q : QE} (h : l[i]? = some q) : (qc l)[i * 2]? = some (.int .i64 q.room) ∧ (qc l)[i * 2 + 1]? = some q.sl := by
  induction l generalizing i with
  | nil => simp at h
  | cons p l ih =>
    cases i with
    | zero => simp at h; subst h; simp [qc]
    | succ i =>
      have := ih (i := i) (by simpa using h)
      rw [show (i + 1) * 2 = i * 2 + 1 + 1 by omega]
      simpa [qc] using this
theorem qc_set {l : List QE} {i : Nat} {q : QE} (h : l[i]? = some q) (p : QE) : qc (l.set i p) = ((qc l).set (i * 2) (.int .i64 p.room)).set (i * 2 + 1) p.sl := by
  induction l generalizing i with
  | nil => simp at h
  | cons p' l ih =>
    cases i with
    | zero => simp [qc]
    | succ i =>
      have := ih (i := i) (by simpa using h)
      rw [show (i + 1) * 2 = i * 2 + 1 + 1 by omega]
      simp [qc, this]
theorem qc_app (l m : List QE) : qc (l ++ m) = qc l ++ qc m := by
  induction l with
  | nil => rfl
  | cons q l ih => simp [qc, ih]

theorem qblk {w : World} {b : Nat} {T : TypeId} {l : List QE} {sp : List Value} (h : Blk w b T (qc l ++ sp)) {c : Nat} {q : QE} (hq : l[c]? = some q) :
    w.cell? ⟨b, c * 2, none⟩ = some (.int .i64 q.room) ∧ w.cell? ⟨b, c * 2 + 1, none⟩ = some q.sl := by
  have hg := qc_get hq
  have h1 : c * 2 < (qc l).length := by
    rcases Nat.lt_or_ge (c * 2) (qc l).length with h | h
    · exact h
    · rw [List.getElem?_eq_none h] at hg; cases hg.1
  have h2 : c * 2 + 1 < (qc l).length := by
    rcases Nat.lt_or_ge (c * 2 + 1) (qc l).length with h | h
    · exact h
    · rw [List.getElem?_eq_none h] at hg; cases hg.2
  exact ⟨h.cell (by rw [List.getElem?_append_left h1]; exact hg.1), h.cell (by rw [List.getElem?_append_left h2]; exact hg.2)⟩
theorem qblk_set {w : World} {b : Nat} {T : TypeId} {l : List QE} {sp : List Value} (h : Blk w b T (qc l ++ sp)) {c : Nat} {q : QE} (hq : l[c]? = some q) (p : QE) :
    Blk ((w.setCell ⟨b, c * 2, none⟩ (.int .i64 p.room)).setCell ⟨b, c * 2 + 1, none⟩ p.sl) b T (qc (l.set c p) ++ sp) := by
  have hc : c < l.length := by
    rcases Nat.lt_or_ge c l.length with h | h
    · exact h
    · rw [List.getElem?_eq_none h] at hq; cases hq
  have hl := qc_len l
  have h1 := (h.set (c * 2) (.int .i64 p.room)).set (c * 2 + 1) p.sl
  rw [List.set_append_left _ _ (by omega), List.set_append_left _ _ (by simp; omega), ← qc_set hq] at h1
  exact h1
theorem qown_blk {w : World} {base : Nat} {e : TypeId} {v : Value} {n : Nat} {l : List QE} (h : w.ownsRow base e 2 v n (qc l)) (hx : l ≠ []) :
    ∃ g sp c, v = .slice (some ⟨g, 0, none⟩) n c ∧ base ≤ g ∧ Blk w g e (qc l ++ sp) ∧ n = l.length := by
  obtain ⟨h1, h⟩ := h
  have hn : n = l.length := by rw [qc_len] at h1; omega
  rcases h with ⟨_, h0⟩ | ⟨g, cap, cur, hv, hg, hh, h3, h4, h5, h6⟩
  · exact absurd (List.eq_nil_of_length_eq_zero (by omega)) hx
  · refine ⟨g, cur.toList.drop (n * 2), cap, hv, hg, ?_, hn⟩
    unfold Blk
    rw [← h6, List.take_append_drop]
    exact hh

/-- A shelf, and the queues in a row of structs. -/
structure SQ (W : World) (B s : Nat) (rv : Value) (rs : List RSt) (qb : Nat) (qs : List QE) (sp : List Value) (w : World) : Prop where
  sh : ShAt w B s rv rs
  blk : Blk w qb 51 (qc qs ++ sp)
  row : ∀ (i : Nat) (q : QE), qs[i]? = some q → RwI w B q.sl q.xs
  ap : ¬ shF s rv rs qb
  aq : ∀ (i : Nat) (q : QE), qs[i]? = some q → ∀ g, q.sl.ownBlock = some g → g ≠ qb ∧ ¬ shF s rv rs g
  bel : Below W.heap.size W w
  hB : W.heap.size ≤ B
  hq : B ≤ qb
theorem SQ.below {W w w' : World} {B s qb : Nat} {rv : Value} {rs : List RSt} {qs : List QE} {sp : List Value} (h : SQ W B s rv rs qb qs sp w) (hb : Below w.heap.size w w') : SQ W B s rv rs qb qs sp w' :=
  ⟨h.sh.below hb, h.blk.upd (S := fun _ => False) (Upd.of_below hb) id, fun i q hq => rw_upd (S := fun _ => False) (h.row i q hq) (Upd.of_below hb) (fun _ _ => id), h.ap, h.aq, h.bel.trans (hb.mono h.bel.size), h.hB, h.hq⟩
theorem SQ.drew {W w : World} {B s qb : Nat} {rv : Value} {rs : List RSt} {qs : List QE} {sp : List Value} (h : SQ W B s rv rs qb qs sp w) : SQ W B s rv rs qb qs sp w.drew := h.below ((Qt.refl w).drewN 1).bel

/-- What the reference's Put and Take leave: a row that is new or the one that was. -/
def QRow (w : World) (base : Nat) (old : Value) (a' : Option Addr) (c' : Nat) (xs' : List Int) (w' : World) : Prop :=
  RwI w' base (.slice a' xs'.length c') xs' ∧ (∀ g, (Value.slice a' xs'.length c').ownBlock = some g → old.ownBlock = some g ∨ w.heap.size ≤ g) ∧ Below w.heap.size w w'

theorem rput_any (w : World) (base room : Nat) (a : Option Addr) (c : Nat) (xs : List Int) (x : Int) (hs : RwI w base (.slice a xs.length c) xs) (hr : room ≤ 1000) (hb : base ≤ w.heap.size) :
    Calls Try.prog 23 #[.agg #[.int .i64 (room : Int), .slice a xs.length c], .int .i64 x] w fun e w' =>
      ∃ a' c', e = .returned (.tuple #[.agg #[.int .i64 (room : Int), .slice a' (putXs room xs x).length c'], .int .i64 (putRes room xs)]) ∧ QRow w base (.slice a xs.length c) a' c' (putXs room xs x) w' := by
  unfold putXs putRes
  by_cases h : xs.length < room
  · rw [if_pos h, if_pos h]
    refine (rput_ok w base room a c xs x hs h hr).mono ?_
    rintro e w' ⟨a', c', rfl, hrow, hbl⟩
    have hl : (xs ++ [x]).length = xs.length + 1 := by simp
    refine ⟨a', c', by rw [hl]; rfl, ?_, ?_, hbl⟩
    · rw [hl]; exact rw_base hrow hb
    · intro g hg
      rw [hl] at hg
      exact .inr (own_lt hrow.own hg).2
  · rw [if_neg h, if_neg h]
    refine (rput_full w room a xs.length c x (by omega)).mono ?_
    rintro e w' ⟨rfl, hbl⟩
    exact ⟨a, c, rfl, rw_upd (S := fun _ => False) hs (Upd.of_below hbl) (fun _ _ => id), fun g hg => .inl hg, hbl⟩

theorem rtake_any (w : World) (base room : Nat) (a : Option Addr) (c : Nat) (xs : List Int) (hs : RwI w base (.slice a xs.length c) xs) (hr : xs.length ≤ 1000) (hb : base ≤ w.heap.size) :
    Calls Try.prog 25 #[.agg #[.int .i64 (room : Int), .slice a xs.length c]] w fun e w' =>
      ∃ a' c', e = .returned (.tuple #[.agg #[.int .i64 (room : Int), .slice a' xs.tail.length c'], .int .i64 (xs.headD 0), .bool (!xs.isEmpty)]) ∧ QRow w base (.slice a xs.length c) a' c' xs.tail w' := by
  cases xs with
  | nil =>
    refine (rtake_none w room a c).mono ?_
    rintro e w' ⟨rfl, hbl⟩
    exact ⟨a, c, rfl, rw_upd (S := fun _ => False) hs (Upd.of_below hbl) (fun _ _ => id), fun g hg => .inl hg, hbl⟩
  | cons x xs =>
    refine (rtake_some w base room a c x xs hs (by simp at hr; omega)).mono ?_
    rintro e w' ⟨a', c', rfl, hrow, hbl⟩
    exact ⟨a', c', rfl, rw_base hrow hb, fun g hg => .inr (own_lt hrow.own hg).2, hbl⟩

theorem takeRes_eq (xs : List Int) : takeRes xs = .tuple #[.int .i64 (xs.headD 0), .bool (!xs.isEmpty)] := by cases xs <;> rfl

/-- The reference's answer is stored. -/
theorem SQ.store {W w w' : World} {B s qb : Nat} {rv : Value} {rs : List RSt} {qs : List QE} {sp : List Value} (h : SQ W B s rv rs qb qs sp w) {c : Nat} {q : QE} (hq : qs[c]? = some q)
    {a' : Option Addr} {c' : Nat} {xs' : List Int} (hr : QRow w B q.sl a' c' xs' w') :
    SQ W B s rv rs qb (qs.set c ⟨a', c', q.room, xs'⟩) sp ((w'.setCell ⟨qb, c * 2, none⟩ (.int .i64 q.room)).setCell ⟨qb, c * 2 + 1, none⟩ (.slice a' xs'.length c')) := by
  obtain ⟨h1, h2, h3⟩ := hr
  have h' := h.below h3
  have u : Upd (fun k => k = qb) w' ((w'.setCell ⟨qb, c * 2, none⟩ (.int .i64 q.room)).setCell ⟨qb, c * 2 + 1, none⟩ (.slice a' xs'.length c')) :=
    Upd.setCell (S := fun k => k = qb) (Upd.setCell (S := fun k => k = qb) (Upd.refl _ _) _ _ (fun _ => rfl)) _ _ (fun _ => rfl)
  have hcl : c < qs.length := by
    rcases Nat.lt_or_ge c qs.length with h | h
    · exact h
    · rw [List.getElem?_eq_none h] at hq; cases hq
  have hn : ∀ g, (Value.slice a' xs'.length c').ownBlock = some g → g ≠ qb ∧ ¬ shF s rv rs g := by
    intro g hg
    rcases h2 g hg with h4 | h4
    · exact h.aq c q hq g h4
    · refine ⟨fun e => ?_, fun hf => ?_⟩
      · have := h.blk.lt; omega
      · have := (h.sh.f_lt hf).1; omega
  have hget : ∀ (i : Nat) (p : QE), (qs.set c ⟨a', c', q.room, xs'⟩)[i]? = some p → p = ⟨a', c', q.room, xs'⟩ ∨ qs[i]? = some p := by
    intro i p hp
    rw [List.getElem?_set] at hp
    by_cases e : c = i
    · rw [if_pos e, if_pos hcl] at hp
      exact .inl (Option.some.inj hp).symm
    · rw [if_neg e] at hp
      exact .inr hp
  refine ⟨h'.sh.upd u (fun e => h.ap (.inl e.symm)) (fun k hk e => h.ap (.inr (.inl (by rw [← e]; exact hk)))) (fun i r hr k hk e => h.ap (.inr (.inr ⟨i, r, hr, by rw [← e]; exact hk⟩))), qblk_set h'.blk hq ⟨a', c', q.room, xs'⟩, ?_, h.ap, ?_, Upd.below h'.bel u h'.bel.size (fun i hi => by have := h.hB; have := h.hq; omega), h.hB, h.hq⟩
  · intro i p hp
    rcases hget i p hp with rfl | hp
    · exact rw_upd h1 u (fun g hg e => (hn g hg).1 e)
    · exact rw_upd (h'.row i p hp) u (fun g hg e => (h'.aq i p hp g hg).1 e)
  · intro i p hp
    rcases hget i p hp with rfl | hp
    · exact hn
    · exact h.aq i p hp

/-- A ring has turned. -/
theorem SQ.turn {W w w' : World} {B s qb : Nat} {rv : Value} {rs : List RSt} {qs : List QE} {sp : List Value} (h : SQ W B s rv rs qb qs sp w) {c : Nat} {r : RSt} (hr : rs[c]? = some r) {xs' : List Int} {v' : Value}
    (hS : ShAt w' B s rv (rs.set c ⟨r.b, r.room, v', xs'⟩)) (u : Upd r.foot w w') (hv : v'.ownBlock = r.v.ownBlock ∨ ∀ g, v'.ownBlock = some g → w.heap.size ≤ g) :
    SQ W B s rv (rs.set c ⟨r.b, r.room, v', xs'⟩) qb qs sp w' := by
  have hin : ∀ k, r.foot k → shF s rv rs k := fun k hk => .inr (.inr ⟨c, r, hr, hk⟩)
  have hcl : c < rs.length := by
    rcases Nat.lt_or_ge c rs.length with h | h
    · exact h
    · rw [List.getElem?_eq_none h] at hr; cases hr
  have hF : ∀ k, k < w.heap.size → shF s rv (rs.set c ⟨r.b, r.room, v', xs'⟩) k → shF s rv rs k := by
    rintro k hk (rfl | hk2 | ⟨i, p, hp, hf⟩)
    · exact .inl rfl
    · exact .inr (.inl hk2)
    · rw [List.getElem?_set] at hp
      by_cases e : c = i
      · rw [if_pos e, if_pos hcl] at hp
        obtain rfl := Option.some.inj hp
        rcases hf with hf | hf
        · exact hin k (.inl hf)
        · rcases hv with hv | hv
          · exact hin k (.inr (by rw [← hv]; exact hf))
          · have := hv k hf; omega
      · rw [if_neg e] at hp
        exact .inr (.inr ⟨i, p, hp, hf⟩)
  refine ⟨hS, h.blk.upd u (fun hf => h.ap (hin _ hf)), fun i q hq => rw_upd (h.row i q hq) u (fun g hg hf => (h.aq i q hq g hg).2 (hin _ hf)), fun hf => h.ap (hF _ h.blk.lt hf), fun i q hq g hg => ⟨(h.aq i q hq g hg).1, fun hf => (h.aq i q hq g hg).2 (hF _ (own_lt (h.row i q hq).own hg).1 hf)⟩, ?_, h.hB, h.hq⟩
  exact Upd.below h.bel u h.bel.size (fun k hk => by have := (h.sh.foot_lt hr hk).2; have := h.hB; omega)

def qeOf (qs : List QE) : List (Nat × List Int) := qs.map fun q => (q.room, q.xs)
theorem qe_set {qs : List QE} {rs : List RSt} (h : qeOf qs = qsOf rs) (c : Nat) (a' : Option Addr) (c' b room : Nat) (v' : Value) (xs' : List Int) :
    qeOf (qs.set c ⟨a', c', room, xs'⟩) = qsOf (rs.set c ⟨b, room, v', xs'⟩) := by
  unfold qeOf qsOf at *
  rw [List.map_set, List.map_set, h]
theorem qe_get {qs : List QE} {rs : List RSt} (h : qeOf qs = qsOf rs) {c : Nat} (hc : c < rs.length) : ∃ q r, Hid (qs[c]? = some q) ∧ Hid (rs[c]? = some r) ∧ q.room = r.room ∧ q.xs = r.xs := by
  have hl : qs.length = rs.length := by
    have := congrArg List.length h
    simpa [qeOf, qsOf] using this
  have h1 : qs[c]? = some (qs[c]'(by omega)) := List.getElem?_eq_getElem (by omega)
  have h2 : rs[c]? = some rs[c] := List.getElem?_eq_getElem hc
  refine ⟨_, _, h1, h2, ?_⟩
  have := congrArg (fun l => l[c]?) h
  simp only [qeOf, qsOf, List.getElem?_map, h1, h2, Option.map_some, Option.some.injEq, Prod.mk.injEq] at this
  exact this
theorem qe_lens {qs : List QE} {rs : List RSt} (h : qeOf qs = qsOf rs) : qs.map (fun q => (q.xs.length : Int)) = lensOf rs := by
  have := congrArg (List.map fun p : Nat × List Int => (p.2.length : Int)) h
  simpa [qeOf, qsOf, lensOf, List.map_map, Function.comp_def] using this

/-- Between the rounds. -/
def SqRel (W : World) (B s : Nat) (rv : Value) (qb n : Nat) (sp : List Value) (len : Nat) (i : Value) (w : World) : Prop :=
  ∃ (k : Nat) (rs : List RSt) (qs : List QE), k ≤ len ∧ i = .int .i64 k ∧ SQ W B s rv rs qb qs sp w ∧ qeOf qs = qsOf rs ∧ qs.length = n
/-- The row of queues grows. -/
def new0 (z : Int) : QE := ⟨none, 0, z.toNat, []⟩
def qsT (zs : List Int) (k : Nat) : List Value := qc ((zs.take k).map new0)
def QsRel (W : World) (wl : World) (zs : List Int) (v i : Value) (w : World) : Prop :=
  ∃ k : Nat, k ≤ zs.length ∧ i = .int .i64 k ∧ w.ownsRow wl.heap.size 51 2 v k (qsT zs k) ∧ Below wl.heap.size wl w
/-- The row of lengths grows. -/
def LnRel (wl : World) (zs : List Int) (v i : Value) (w : World) : Prop :=
  ∃ k : Nat, k ≤ zs.length ∧ i = .int .i64 k ∧ w.ownsRow wl.heap.size 3 1 v k ((zs.take k).map (Value.int .i64)) ∧ Below wl.heap.size wl w
end Go.Proofs.Ytdfncgfcggpgdaa
