/-
  switchbox: the memory of a Step, further: cells, where it begins, the relations of its loops.
-/
import Derived.Test.YtkooihniieepcaaSwL
import Derived.Test.YtkooihniieepcaaSwKb
namespace Go.Proofs.Ytkooihniieepcaa
open Go.RowKit
set_option linter.unusedVariables false
section
variable {W w w' w2 : World} {base P K : Nat} {L0 L L' : Loc} {M0 M' : Md} {x : Bool → Nat → List Int} {l : KL} {s : SS}
theorem SkAt.chb (h : SkAt W base P K L0 M0 x L l s w) : w.cell? ⟨l.hb, 0, none⟩ = some (.pointer (some ⟨L0.bb, 0, none⟩)) := by
  rw [← h.bbe]
  exact (h.lo.blk (r := .hb) rfl).cell (i := 0) rfl
theorem SkAt.cmb (h : SkAt W base P K L0 M0 x L l s w) : w.cell? ⟨l.mb, 0, none⟩ = some l.mvv ∧ w.frozen? ⟨l.mb, 0, none⟩ = false := ⟨(h.lo.blk (r := .mb) rfl).cell (i := 0) rfl, (h.lo.blk (r := .mb) rfl).free 0⟩
theorem SkAt.cfb (h : SkAt W base P K L0 M0 x L l s w) : w.cell? ⟨l.fb, 0, none⟩ = some l.frv ∧ w.frozen? ⟨l.fb, 0, none⟩ = false := ⟨(h.lo.blk (r := .fb) rfl).cell (i := 0) rfl, (h.lo.blk (r := .fb) rfl).free 0⟩
theorem SkAt.omv (h : SkAt W base P K L0 M0 x L l s w) : w.ownsRow W.heap.size 34 3 l.mvv s.mv.length (flC mvC s.mv) := h.lo.row (r := .mv) rfl
theorem SkAt.ofr (h : SkAt W base P K L0 M0 x L l s w) : w.ownsRow W.heap.size 39 6 l.frv s.fr.length (flC frC s.fr) := h.lo.row (r := .fr) rfl
theorem SkAt.ctb (h : SkAt W base P K L0 M0 x L l s w) (t : Bool) {i : Nat} (hi : i < 8) : w.cell? ⟨l.tb t, i, none⟩ = some (l.tv t i) := (show Fun w (l.tb t) 84 8 (l.tv t) from h.lo.blk (r := .tb t) rfl).cell hi
theorem SkAt.crw (h : SkAt W base P K L0 M0 x L l s w) (t : Bool) {i : Nat} (hi : i < P) : w.ownsRow W.heap.size 3 1 (l.tv t i) (x t i).length ((x t i).map (Value.int .i64)) := h.lo.row (r := .rw t i) (if_pos hi)
theorem SkAt.size (h : SkAt W base P K L0 M0 x L l s w) : W.heap.size ≤ w.heap.size := h.bx.2.1.size
theorem SkAt.box_ (h : SkAt W base P K L0 M0 x L l s w) : BoxAt w base P K L s.M := h.bx.1
/-- The way into a table. -/
theorem SkAt.tab (h : SkAt W base P K L0 M0 x L l s w) {d : Nat → Nat → Int} (t : Bool) (hx : ∀ i < P, x t i = (List.range K).map (d i)) {i c : Nat} (hi : i < P) (hc : c < K) : ∃ g m, w.cell? ⟨l.tb t, i, none⟩ = some (.slice (some ⟨g, 0, none⟩) K m) ∧ w.cell? ⟨g, c, none⟩ = some (.int .i64 (d i c)) := by
  have ho := h.crw t hi
  have h8 := h.box_.ok.p8
  rw [hx i hi] at ho
  rw [List.map_map, List.length_map, List.length_range] at ho
  obtain ⟨a, m, e, _⟩ := own_shape ho
  have hk : List.range K ≠ [] := by intro e; have := congrArg List.length e; simp at this; omega
  rw [e] at ho
  obtain ⟨g, sp, rfl, _, hb, _⟩ := own_blk ho hk
  refine ⟨g, m, by rw [h.ctb t (by omega), e], hb.cell ?_⟩
  rw [List.getElem?_append_left (by simpa using hc)]
  exact fun_get _ hc
/-- What the closure ready reads. -/
theorem SkAt.rdy (h : SkAt W base P K L0 M0 x L l s w) {o : Nat → Nat → Int} (hx : ∀ i < P, x true i = (List.range K).map (o i)) : RyAt w base P K L s.M l.hb (l.tb true) (l.tv true) o := by
  refine ⟨h.box_, h.lo.blk (r := .hb) rfl, h.lo.blk (r := .tb true) rfl, fun i hi => ⟨W.heap.size, ?_⟩⟩
  have ho := h.crw true hi
  rw [hx i hi, List.map_map, List.length_map, List.length_range] at ho
  exact ho
/-- Somewhere in Step. -/
def KSt (W : World) (base P K : Nat) (L0 : Loc) (M0 : Md) (x : Bool → Nat → List Int) (hb mb fb : Nat) (tb : Bool → Nat) (tv : Bool → Nat → Value) (mt : Option (Nat × List Value)) (s : SS) (w : World) : Prop :=
  ∃ L mvv frv, SkAt W base P K L0 M0 x L ⟨hb, mb, fb, tb, tv, mvv, frv, mt⟩ s w
/-- Which blocks the roles take at the start. -/
def kChar (P n m : Nat) (v : Bool → Nat → Value) (k : Nat) : KR → Prop
  | .hb => k = n
  | .mb => k = n + 1
  | .fb => k = n + 1 + 1
  | .tb t => m ≤ k ∧ k ≤ m + 1 ∧ Hid (k = bT m t)
  | .rw t i => i < P ∧ n + 3 ≤ k ∧ k < m ∧ (v t i).ownBlock = some k
  | _ => False
theorem SkAt.start {W wA w2 : World} {n0 : Bool → Nat} {v : Bool → Nat → Value} (h : BoxAt W base P K L M') (bA : Below W.heap.size W wA) (hz : wA.heap.size = W.heap.size + 3)
    (ph : Blk wA W.heap.size 26 [.pointer (some ⟨L.bb, 0, none⟩)]) (pm : Blk wA (W.heap.size + 1) 29 [.slice none 0 0]) (pf : Blk wA (W.heap.size + 1 + 1) 30 [.slice none 0 0])
    (hl : St w2 wA.heap.size (lkC n0 v x)) (bL : Below wA.heap.size wA w2) :
    SkAt W base P K L M' x L ⟨W.heap.size, W.heap.size + 1, W.heap.size + 1 + 1, bT w2.heap.size, v, .slice none 0 0, .slice none 0 0, none⟩ ⟨M', [], []⟩
      ((w2.alloc (.cells ((List.range 8).map (v false)).toArray 84)).alloc (.cells ((List.range 8).map (v true)).toArray 84)) := by
  have h8 := h.ok.p8
  have bN : Below w2.heap.size w2 ((w2.alloc (.cells ((List.range 8).map (v false)).toArray 84)).alloc (.cells ((List.range 8).map (v true)).toArray 84)) := ((Below.refl _ _).alloc (Nat.le_refl _) _).alloc (by simp) _
  have hs2 := bL.size
  have hsz : ((w2.alloc (.cells ((List.range 8).map (v false)).toArray 84)).alloc (.cells ((List.range 8).map (v true)).toArray 84)).heap.size = w2.heap.size + 2 := by simp
  have bW : Below W.heap.size W ((w2.alloc (.cells ((List.range 8).map (v false)).toArray 84)).alloc (.cells ((List.range 8).map (v true)).toArray 84)) := (bA.trans (bL.mono (by omega))).trans (bN.mono (by omega))
  have t0 : Blk ((w2.alloc (.cells ((List.range 8).map (v false)).toArray 84)).alloc (.cells ((List.range 8).map (v true)).toArray 84)) w2.heap.size 84 ((List.range 8).map (v false)) := (Blk.new w2 _ _).alloc _
  have t1 : Blk ((w2.alloc (.cells ((List.range 8).map (v false)).toArray 84)).alloc (.cells ((List.range 8).map (v true)).toArray 84)) (w2.heap.size + 1) 84 ((List.range 8).map (v true)) := by
    have := Blk.new (w2.alloc (.cells ((List.range 8).map (v false)).toArray 84)) 84 ((List.range 8).map (v true))
    rw [World.size_alloc] at this
    exact this
  generalize ((w2.alloc (.cells ((List.range 8).map (v false)).toArray 84)).alloc (.cells ((List.range 8).map (v true)).toArray 84)) = w3 at *
  have up : ∀ {k : Nat} {T : TypeId} {xs : List Value}, Blk wA k T xs → Blk w3 k T xs := fun hb => (hb.upd (Upd.of_below (S := fun _ => False) bL) id).upd (Upd.of_below (S := fun _ => False) bN) id
  have ch : ∀ r p k, kC P K L.bb x ⟨W.heap.size, W.heap.size + 1, W.heap.size + 1 + 1, bT w2.heap.size, v, .slice none 0 0, .slice none 0 0, none⟩ ⟨M', [], []⟩ r = some p → p.foot = some k → kChar P W.heap.size w2.heap.size v k r := by
    intro r p k h1 h2
    cases r with
    | rw t i =>
      simp only [kC] at h1
      split at h1
      · rename_i hi
        cases h1
        have := Pc.lt (hl.at_ (.rw t i) _ (if_pos (by omega))) h2
        exact ⟨hi, by omega, this.2, h2⟩
      · cases h1
    | mt => cases h1
    | mv => cases h1; cases h2
    | fr => cases h1; cases h2
    | hb => cases h1; exact (Option.some.inj h2).symm
    | mb => cases h1; exact (Option.some.inj h2).symm
    | fb => cases h1; exact (Option.some.inj h2).symm
    | tb t =>
      cases h1
      obtain rfl : bT w2.heap.size t = k := Option.some.inj h2
      refine ⟨?_, ?_, Lib.hid rfl⟩ <;> cases t <;> simp [bT]
  refine ⟨⟨h.below bW, Upd.of_below bW, fun k hk => .inl hk⟩, ⟨fun r p hp => ?_, fun r r' p p' k h1 h2 h3 h4 => ?_⟩, fun k hk hf => ?_, rfl⟩
  · cases r with
    | hb => cases hp; exact ⟨up ph, Nat.le_refl _⟩
    | mb => cases hp; exact ⟨up pm, Nat.le_succ _⟩
    | fb => cases hp; exact ⟨up pf, Nat.le_add_right _ 2⟩
    | tb t =>
      cases hp
      cases t with
      | false => exact ⟨t0, by show _ ≤ w2.heap.size; omega⟩
      | true => exact ⟨t1, by show _ ≤ w2.heap.size + 1; omega⟩
    | mv => cases hp; exact World.ownsRow_nil _ _ _ _
    | fr => cases hp; exact World.ownsRow_nil _ _ _ _
    | mt => cases hp
    | rw t i =>
      simp only [kC] at hp
      split at hp
      · rename_i hi
        cases hp
        exact own_upd (own_rebase (hl.row (r := .rw t i) (if_pos (by omega))) (by omega)) (Upd.of_below (S := fun _ => False) bN) (fun _ _ => id)
      · cases hp
  · have c1 := ch r p k h1 h3
    have c2 := ch r' p' k h2 h4
    cases r <;> cases r' <;> simp only [kChar] at c1 c2 <;> first | rfl | omega | skip
    · have e := c1.2.2.out.symm.trans c2.2.2.out
      rename_i t t'
      cases t <;> cases t' <;> simp [bT] at e <;> rfl
    · rename_i t i t' i'
      have := hl.sep (.rw t i) (.rw t' i') _ _ k (if_pos (by omega)) (if_pos (by omega)) c1.2.2.2 c2.2.2.2
      cases this
      rfl
  · have hk' := (h.lt hk).2
    obtain ⟨r, p, h1, h2⟩ := hf
    have c1 := ch r p k h1 h2
    cases r <;> simp only [kChar] at c1 <;> omega
theorem SkAt.pop (h : SkAt W base P K L0 M0 x L l s w) {p c : Nat} {f : Fr} {r : List Fr} (hf : s.M.q p c = f :: r) (hp : p < P) (hc : c < K) (hbase : base ≤ W.heap.size) :
    Calls Try.prog 39 #[.pointer (some ⟨L0.bb, 0, none⟩), .int .i64 p, .int .i64 c] w fun e w' => e = .returned (frV f) ∧ ∃ L', SkAt W base P K L0 M0 x L' l ⟨popM s.M p c, s.mv, s.fr⟩ w' := by
  have hs := h.size
  have hb := h.bbe
  have := pop_ok p c f r hf h.box_ hp hc (by omega)
  rw [hb] at this
  refine this.mono ?_
  rintro e w' ⟨v, he, hq⟩
  refine ⟨he, locQ L p c v, ?_⟩
  have e2 : mdQ s.M p c r (freX (s.M.gv p c)) = popM s.M p c := by unfold popM; rw [hf]; rfl
  rw [e2] at hq
  exact h.box rfl hq
/-- Behind append: the row of frames has grown, the cell still holds the old slice. -/
theorem SkAt.midF (h : SkAt W base P K L0 M0 x L l s w) (gr : w.grownBy w2 l.frv.ownBlock) :
    w2.cell? ⟨l.hb, 0, none⟩ = some (.pointer (some ⟨L0.bb, 0, none⟩)) ∧ w2.cell? ⟨l.fb, 0, none⟩ = some l.frv ∧ w2.frozen? ⟨l.fb, 0, none⟩ = false := by
  have hr : kC P K L.bb x l s .fr = some (.row l.frv 39 6 s.fr.length (flC frC s.fr)) := rfl
  have u := Upd.of_grownV gr
  have q1 : Blk w2 l.hb 26 [.pointer (some ⟨L.bb, 0, none⟩)] := (h.lo.blk (r := .hb) rfl).upd u fun e => by
    have := h.lo.sep .hb .fr _ _ l.hb rfl hr rfl e
    cases this
  have q2 : Blk w2 l.fb 30 [l.frv] := (h.lo.blk (r := .fb) rfl).upd u fun e => by
    have := h.lo.sep .fb .fr _ _ l.fb rfl hr rfl e
    cases this
  rw [← h.bbe]
  exact ⟨q1.cell (i := 0) rfl, q2.cell (i := 0) rfl, q2.free 0⟩
theorem SkAt.midM (h : SkAt W base P K L0 M0 x L l s w) (gr : w.grownBy w2 l.mvv.ownBlock) :
    w2.cell? ⟨l.mb, 0, none⟩ = some l.mvv ∧ w2.frozen? ⟨l.mb, 0, none⟩ = false := by
  have hr : kC P K L.bb x l s .mv = some (.row l.mvv 34 3 s.mv.length (flC mvC s.mv)) := rfl
  have u := Upd.of_grownV gr
  have q2 : Blk w2 l.mb 29 [l.mvv] := (h.lo.blk (r := .mb) rfl).upd u fun e => by
    have := h.lo.sep .mb .mv _ _ l.mb rfl hr rfl e
    cases this
  exact ⟨q2.cell (i := 0) rfl, q2.free 0⟩
def KnRel (f : Nat → SS) (n : Nat) (KS : SS → World → Prop) (iv : Value) (w : World) : Prop := ∃ k ≤ n, iv = .int .i64 k ∧ KS (f k) w
end
end Go.Proofs.Ytkooihniieepcaa
