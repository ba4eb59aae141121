/-
  switchbox: the memory of a Step under way.
  switchbox: the memory of a Step, further: cells, where it begins, the relations of its loops.
  switchbox: the matching of a Step.
-/
import Derived.Test.YtkooihniieepcaaSwK
namespace Go.Proofs.Ytkooihniieepcaa
open Go.RowKit
set_option linter.unusedVariables false

inductive KR where
  | hb | mb | fb | tb (t : Bool) | mv | fr | mt | rw (t : Bool) (i : Nat)
  deriving DecidableEq
/-- Where the local variables of Step lie, and what they hold. -/
structure KL where
  hb : Nat
  mb : Nat
  fb : Nat
  tb : Bool → Nat
  tv : Bool → Nat → Value
  mvv : Value
  frv : Value
  mt : Option (Nat × List Value)
def kC (P K bb : Nat) (x : Bool → Nat → List Int) (l : KL) (s : SS) : KR → Option Pc
  | .hb => some (.blk l.hb 26 [.pointer (some ⟨bb, 0, none⟩)])
  | .mb => some (.blk l.mb 29 [l.mvv])
  | .fb => some (.blk l.fb 30 [l.frv])
  | .tb t => some (.blk (l.tb t) 84 ((List.range 8).map (l.tv t)))
  | .mv => some (.row l.mvv 34 3 s.mv.length (flC mvC s.mv))
  | .fr => some (.row l.frv 39 6 s.fr.length (flC frC s.fr))
  | .mt => l.mt.map fun x => .blk x.1 3 x.2
  | .rw t i => if i < P then some (.row (l.tv t i) 3 1 (x t i).length ((x t i).map (Value.int .i64))) else none
/-- The box beside the local variables. -/
structure SkAt (W : World) (base P K : Nat) (L0 : Loc) (M0 : Md) (x : Bool → Nat → List Int) (L : Loc) (l : KL) (s : SS) (w : World) : Prop where
  bx : BxPost W base P K L0 M0 L s.M w
  lo : St w W.heap.size (kC P K L.bb x l s)
  ap : ∀ k, boxS P K L s.M k → ¬ ftC (kC P K L.bb x l s) k
  bbe : L.bb = L0.bb
section
variable {W w w' w2 : World} {base P K : Nat} {L0 L L' : Loc} {M0 M' : Md} {x : Bool → Nat → List Int} {l : KL} {s : SS}
theorem SkAt.below (h : SkAt W base P K L0 M0 x L l s w) (q : Below w.heap.size w w') : SkAt W base P K L0 M0 x L l s w' := ⟨h.bx.post q, h.lo.below q, h.ap, h.bbe⟩
/-- The box has turned. -/
theorem SkAt.box (h : SkAt W base P K L0 M0 x L l s w) (hb : L'.bb = L.bb) (q : BxPost w base P K L s.M L' M' w') : SkAt W base P K L0 M0 x L' l ⟨M', s.mv, s.fr⟩ w' := by
  have e : kC P K L'.bb x l ⟨M', s.mv, s.fr⟩ = kC P K L.bb x l s := by rw [hb]; rfl
  refine ⟨h.bx.trans q, ?_, ?_, hb.trans h.bbe⟩
  · rw [e]
    exact h.lo.upd q.2.1 fun k hk hs => h.ap k hs hk
  · rw [e]
    intro k hk hf
    rcases q.2.2 k hk with h1 | h1
    · exact h.ap k h1 hf
    · have := (h.lo.lt hf).2
      omega
/-- What is local has turned. -/
theorem SkAt.loc {l' : KL} {s' : SS} {S : Nat → Prop} (h : SkAt W base P K L0 M0 x L l s w) (hm : s'.M = s.M) (u : Upd S w w') (hS : ∀ k, S k → ftC (kC P K L.bb x l s) k ∨ w.heap.size ≤ k) (hl : St w' W.heap.size (kC P K L.bb x l' s')) (hf : ∀ k, ftC (kC P K L.bb x l' s') k → ftC (kC P K L.bb x l s) k ∨ w.heap.size ≤ k) : SkAt W base P K L0 M0 x L l' s' w' := by
  have hW := h.bx.2.1.size
  refine ⟨?_, hl, ?_, h.bbe⟩
  · rw [hm]
    refine h.bx.upd u fun k hk => ?_
    rcases hS k hk with h1 | h1
    · exact ⟨(h.lo.lt h1).1, fun h2 => h.ap k h2 h1⟩
    · exact ⟨by omega, fun h2 => by have := (h.bx.1.lt h2).2; omega⟩
  · rw [hm]
    intro k hk h2
    rcases hf k h2 with h1 | h1
    · exact h.ap k hk h1
    · have := (h.bx.1.lt hk).2
      omega
/-- A move is appended: the row has grown to v', the cell is stored. -/
theorem SkAt.pushM (h : SkAt W base P K L0 M0 x L l s w) {m : Mv} {v' : Value} (ho : w2.ownsRow W.heap.size 34 3 v' (s.mv.length + 1) (flC mvC s.mv ++ mvC m)) (gr : w.grownBy w2 l.mvv.ownBlock) (hv : v'.ownBlock = l.mvv.ownBlock ∨ v'.ownBlock = some w.heap.size) :
    SkAt W base P K L0 M0 x L { l with mvv := v' } ⟨s.M, s.mv ++ [m], s.fr⟩ (w2.setCell ⟨l.mb, 0, none⟩ v') := by
  have hr : kC P K L.bb x l s .mv = some (.row l.mvv 34 3 s.mv.length (flC mvC s.mv)) := rfl
  have hr2 : kC P K L.bb x l s .mb = some (.blk l.mb 29 [l.mvv]) := rfl
  have u := Upd.of_grownV gr
  have s1 := h.lo.put .mv (.row v' 34 3 (s.mv.length + 1) (flC mvC s.mv ++ mvC m)) u (fun k hk _ => ⟨_, hr, hk⟩) ho (fun k hk => by
    have hk' : v'.ownBlock = some k := hk
    rcases hv with e | e
    · exact .inl ⟨_, hr, by rw [← hk', e]; rfl⟩
    · right
      rw [e] at hk'
      cases hk'
      exact Nat.le_refl _)
  have s2 := s1.store (r := .mb) (k := l.mb) (T := 29) (l := [l.mvv]) (i := 0) (v := v') (l' := [v']) (by rw [setC_ne _ _ (by intro e; cases e)]; rfl) rfl
  have ee : ∀ r, setC (setC (kC P K L.bb x l s) .mv (.row v' 34 3 (s.mv.length + 1) (flC mvC s.mv ++ mvC m))) .mb (.blk l.mb 29 [v']) r = kC P K L.bb x { l with mvv := v' } ⟨s.M, s.mv ++ [m], s.fr⟩ r := fun r => by
    cases r <;> first | rfl | skip
    show some (Pc.row v' _ 3 (s.mv.length + 1) (flC mvC s.mv ++ mvC m)) = some (Pc.row v' _ 3 (s.mv ++ [m]).length (flC mvC (s.mv ++ [m])))
    rw [List.length_append, flC_append, flC_one]
    rfl
  refine h.loc rfl ((u.mono (T := fun k => ftC (kC P K L.bb x l s) k) fun k _ hk => ⟨_, _, hr, hk⟩).setCell ⟨l.mb, 0, none⟩ v' fun _ => ⟨_, _, hr2, rfl⟩) (fun k hk => .inl hk) (s2.congr ee) fun k hk => ?_
  rcases ftC_set (ftC_congr ee hk) with h1 | h1
  · rcases ftC_set h1 with h1 | h1
    · exact .inl h1
    · have hk' : v'.ownBlock = some k := h1
      rcases hv with e | e
      · exact .inl ⟨_, _, hr, by rw [← hk', e]; rfl⟩
      · right
        rw [e] at hk'
        cases hk'
        exact Nat.le_refl _
  · exact .inl ⟨_, _, hr2, h1⟩
/-- A frame is appended. -/
theorem SkAt.pushF (h : SkAt W base P K L0 M0 x L l s w) {f : Fr} {v' : Value} (ho : w2.ownsRow W.heap.size 39 6 v' (s.fr.length + 1) (flC frC s.fr ++ frC f)) (gr : w.grownBy w2 l.frv.ownBlock) (hv : v'.ownBlock = l.frv.ownBlock ∨ v'.ownBlock = some w.heap.size) :
    SkAt W base P K L0 M0 x L { l with frv := v' } ⟨s.M, s.mv, s.fr ++ [f]⟩ (w2.setCell ⟨l.fb, 0, none⟩ v') := by
  have hr : kC P K L.bb x l s .fr = some (.row l.frv 39 6 s.fr.length (flC frC s.fr)) := rfl
  have hr2 : kC P K L.bb x l s .fb = some (.blk l.fb 30 [l.frv]) := rfl
  have u := Upd.of_grownV gr
  have s1 := h.lo.put .fr (.row v' 39 6 (s.fr.length + 1) (flC frC s.fr ++ frC f)) u (fun k hk _ => ⟨_, hr, hk⟩) ho (fun k hk => by
    have hk' : v'.ownBlock = some k := hk
    rcases hv with e | e
    · exact .inl ⟨_, hr, by rw [← hk', e]; rfl⟩
    · right
      rw [e] at hk'
      cases hk'
      exact Nat.le_refl _)
  have s2 := s1.store (r := .fb) (k := l.fb) (T := 30) (l := [l.frv]) (i := 0) (v := v') (l' := [v']) (by rw [setC_ne _ _ (by intro e; cases e)]; rfl) rfl
  have ee : ∀ r, setC (setC (kC P K L.bb x l s) .fr (.row v' 39 6 (s.fr.length + 1) (flC frC s.fr ++ frC f))) .fb (.blk l.fb 30 [v']) r = kC P K L.bb x { l with frv := v' } ⟨s.M, s.mv, s.fr ++ [f]⟩ r := fun r => by
    cases r <;> first | rfl | skip
    show some (Pc.row v' _ 6 (s.fr.length + 1) (flC frC s.fr ++ frC f)) = some (Pc.row v' _ 6 (s.fr ++ [f]).length (flC frC (s.fr ++ [f])))
    rw [List.length_append, flC_append, flC_one]
    rfl
  refine h.loc rfl ((u.mono (T := fun k => ftC (kC P K L.bb x l s) k) fun k _ hk => ⟨_, _, hr, hk⟩).setCell ⟨l.fb, 0, none⟩ v' fun _ => ⟨_, _, hr2, rfl⟩) (fun k hk => .inl hk) (s2.congr ee) fun k hk => ?_
  rcases ftC_set (ftC_congr ee hk) with h1 | h1
  · rcases ftC_set h1 with h1 | h1
    · exact .inl h1
    · have hk' : v'.ownBlock = some k := h1
      rcases hv with e | e
      · exact .inl ⟨_, _, hr, by rw [← hk', e]; rfl⟩
      · right
        rw [e] at hk'
        cases hk'
        exact Nat.le_refl _
  · exact .inl ⟨_, _, hr2, h1⟩
end
end Go.Proofs.Ytkooihniieepcaa
namespace Go.Proofs.Ytkooihniieepcaa
open Go.RowKit
set_option linter.unusedVariables false
section
variable {W w w' w2 : World} {base P K : Nat} {L0 L L' : Loc} {M0 M' : Md} {x : Bool → Nat → List Int} {l : KL} {s : SS}
theorem SkAt.chb (h : SkAt W base P K L0 M0 x L l s w) : w.cell? ⟨l.hb, 0, none⟩ = some (.pointer (some ⟨L0.bb, 0, none⟩)) := by
  rw [← h.bbe]
  exact (h.lo.blk (r := .hb) rfl).cell (i := 0) rfl
theorem SkAt.cmb (h : SkAt W base P K L0 M0 x L l s w) : w.cell? ⟨l.mb, 0, none⟩ = some l.mvv ∧ w.frozen? ⟨l.mb, 0, none⟩ = false := ⟨(h.lo.blk (r := .mb) rfl).cell (i := 0) rfl, (h.lo.blk (r := .mb) rfl).free 0⟩
theorem SkAt.cfb (h : SkAt W base P K L0 M0 x L l s w) : w.cell? ⟨l.fb, 0, none⟩ = some l.frv ∧ w.frozen? ⟨l.fb, 0, none⟩ = false := ⟨(h.lo.blk (r := .fb) rfl).cell (i := 0) rfl, (h.lo.blk (r := .fb) rfl).free 0⟩
theorem SkAt.omv (h : SkAt W base P K L0 M0 x L l s w) : w.ownsRow W.heap.size 34 3 l.mvv s.mv.length (flC mvC s.mv) := h.lo.row (r := .mv) rfl
theorem SkAt.ofr (h : SkAt W base P K L0 M0 x L l s w) : w.ownsRow W.heap.size 39 6 l.frv s.fr.length (flC frC s.fr) := h.lo.row (r := .fr) rfl
theorem SkAt.ctb (h : SkAt W base P K L0 M0 x L l s w) (t : Bool) {i : Nat} (hi : i < 8) : w.cell? ⟨l.tb t, i, none⟩ = some (l.tv t i) := (show Fun w (l.tb t) 84 8 (l.tv t) from h.lo.blk (r := .tb t) rfl).cell hi
theorem SkAt.crw (h : SkAt W base P K L0 M0 x L l s w) (t : Bool) {i : Nat} (hi : i < P) : w.ownsRow W.heap.size 3 1 (l.tv t i) (x t i).length ((x t i).map (Value.int .i64)) := h.lo.row (r := .rw t i) (if_pos hi)
theorem SkAt.size (h : SkAt W base P K L0 M0 x L l s w) : W.heap.size ≤ w.heap.size := h.bx.2.1.size
theorem SkAt.box_ (h : SkAt W base P K L0 M0 x L l s w) : BoxAt w base P K L s.M := h.bx.1
/-- The way into a table. -/
theorem SkAt.tab (h : SkAt W base P K L0 M0 x L l s w) {d : Nat → Nat → Int} (t : Bool) (hx : ∀ i < P, x t i = (List.range K).map (d i)) {i c : Nat} (hi : i < P) (hc : c < K) : ∃ g m, w.cell? ⟨l.tb t, i, none⟩ = some (.slice (some ⟨g, 0, none⟩) K m) ∧ w.cell? ⟨g, c, none⟩ = some (.int .i64 (d i c)) := by
  have ho := h.crw t hi
  have h8 := h.box_.ok.p8
  rw [hx i hi] at ho
  rw [List.map_map, List.length_map, List.length_range] at ho
  obtain ⟨a, m, e, _⟩ := own_shape ho
  have hk : List.range K ≠ [] := by intro e; have := congrArg List.length e; simp at this; omega
  rw [e] at ho
  obtain ⟨g, sp, rfl, _, hb, _⟩ := own_blk ho hk
  refine ⟨g, m, by rw [h.ctb t (by omega), e], hb.cell ?_⟩
  rw [List.getElem?_append_left (by simpa using hc)]
  exact fun_get _ hc
/-- What the closure ready reads. -/
theorem SkAt.rdy (h : SkAt W base P K L0 M0 x L l s w) {o : Nat → Nat → Int} (hx : ∀ i < P, x true i = (List.range K).map (o i)) : RyAt w base P K L s.M l.hb (l.tb true) (l.tv true) o := by
  refine ⟨h.box_, h.lo.blk (r := .hb) rfl, h.lo.blk (r := .tb true) rfl, fun i hi => ⟨W.heap.size, ?_⟩⟩
  have ho := h.crw true hi
  rw [hx i hi, List.map_map, List.length_map, List.length_range] at ho
  exact ho
/-- Somewhere in Step. -/
def KSt (W : World) (base P K : Nat) (L0 : Loc) (M0 : Md) (x : Bool → Nat → List Int) (hb mb fb : Nat) (tb : Bool → Nat) (tv : Bool → Nat → Value) (mt : Option (Nat × List Value)) (s : SS) (w : World) : Prop :=
  ∃ L mvv frv, SkAt W base P K L0 M0 x L ⟨hb, mb, fb, tb, tv, mvv, frv, mt⟩ s w
/-- Which blocks the roles take at the start. -/
def kChar (P n m : Nat) (v : Bool → Nat → Value) (k : Nat) : KR → Prop
  | .hb => k = n
  | .mb => k = n + 1
  | .fb => k = n + 1 + 1
  | .tb t => m ≤ k ∧ k ≤ m + 1 ∧ Hid (k = bT m t)
  | .rw t i => i < P ∧ n + 3 ≤ k ∧ k < m ∧ (v t i).ownBlock = some k
  | _ => False
theorem SkAt.start {W wA w2 : World} {n0 : Bool → Nat} {v : Bool → Nat → Value} (h : BoxAt W base P K L M') (bA : Below W.heap.size W wA) (hz : wA.heap.size = W.heap.size + 3)
    (ph : Blk wA W.heap.size 26 [.pointer (some ⟨L.bb, 0, none⟩)]) (pm : Blk wA (W.heap.size + 1) 29 [.slice none 0 0]) (pf : Blk wA (W.heap.size + 1 + 1) 30 [.slice none 0 0])
    (hl : St w2 wA.heap.size (lkC n0 v x)) (bL : Below wA.heap.size wA w2) :
    SkAt W base P K L M' x L ⟨W.heap.size, W.heap.size + 1, W.heap.size + 1 + 1, bT w2.heap.size, v, .slice none 0 0, .slice none 0 0, none⟩ ⟨M', [], []⟩
      ((w2.alloc (.cells ((List.range 8).map (v false)).toArray 84)).alloc (.cells ((List.range 8).map (v true)).toArray 84)) := by
  have h8 := h.ok.p8
  have bN : Below w2.heap.size w2 ((w2.alloc (.cells ((List.range 8).map (v false)).toArray 84)).alloc (.cells ((List.range 8).map (v true)).toArray 84)) := ((Below.refl _ _).alloc (Nat.le_refl _) _).alloc (by simp) _
  have hs2 := bL.size
  have hsz : ((w2.alloc (.cells ((List.range 8).map (v false)).toArray 84)).alloc (.cells ((List.range 8).map (v true)).toArray 84)).heap.size = w2.heap.size + 2 := by simp
  have bW : Below W.heap.size W ((w2.alloc (.cells ((List.range 8).map (v false)).toArray 84)).alloc (.cells ((List.range 8).map (v true)).toArray 84)) := (bA.trans (bL.mono (by omega))).trans (bN.mono (by omega))
  have t0 : Blk ((w2.alloc (.cells ((List.range 8).map (v false)).toArray 84)).alloc (.cells ((List.range 8).map (v true)).toArray 84)) w2.heap.size 84 ((List.range 8).map (v false)) := (Blk.new w2 _ _).alloc _
  have t1 : Blk ((w2.alloc (.cells ((List.range 8).map (v false)).toArray 84)).alloc (.cells ((List.range 8).map (v true)).toArray 84)) (w2.heap.size + 1) 84 ((List.range 8).map (v true)) := by
    have := Blk.new (w2.alloc (.cells ((List.range 8).map (v false)).toArray 84)) 84 ((List.range 8).map (v true))
    rw [World.size_alloc] at this
    exact this
  generalize ((w2.alloc (.cells ((List.range 8).map (v false)).toArray 84)).alloc (.cells ((List.range 8).map (v true)).toArray 84)) = w3 at *
  have up : ∀ {k : Nat} {T : TypeId} {xs : List Value}, Blk wA k T xs → Blk w3 k T xs := fun hb => (hb.upd (Upd.of_below (S := fun _ => False) bL) id).upd (Upd.of_below (S := fun _ => False) bN) id
  have ch : ∀ r p k, kC P K L.bb x ⟨W.heap.size, W.heap.size + 1, W.heap.size + 1 + 1, bT w2.heap.size, v, .slice none 0 0, .slice none 0 0, none⟩ ⟨M', [], []⟩ r = some p → p.foot = some k → kChar P W.heap.size w2.heap.size v k r := by
    intro r p k h1 h2
    cases r with
    | rw t i =>
      simp only [kC] at h1
      split at h1
      · rename_i hi
        cases h1
        have := Pc.lt (hl.at_ (.rw t i) _ (if_pos (by omega))) h2
        exact ⟨hi, by omega, this.2, h2⟩
      · cases h1
    | mt => cases h1
    | mv => cases h1; cases h2
    | fr => cases h1; cases h2
    | hb => cases h1; exact (Option.some.inj h2).symm
    | mb => cases h1; exact (Option.some.inj h2).symm
    | fb => cases h1; exact (Option.some.inj h2).symm
    | tb t =>
      cases h1
      obtain rfl : bT w2.heap.size t = k := Option.some.inj h2
      refine ⟨?_, ?_, Lib.hid rfl⟩ <;> cases t <;> simp [bT]
  refine ⟨⟨h.below bW, Upd.of_below bW, fun k hk => .inl hk⟩, ⟨fun r p hp => ?_, fun r r' p p' k h1 h2 h3 h4 => ?_⟩, fun k hk hf => ?_, rfl⟩
  · cases r with
    | hb => cases hp; exact ⟨up ph, Nat.le_refl _⟩
    | mb => cases hp; exact ⟨up pm, Nat.le_succ _⟩
    | fb => cases hp; exact ⟨up pf, Nat.le_add_right _ 2⟩
    | tb t =>
      cases hp
      cases t with
      | false => exact ⟨t0, by show _ ≤ w2.heap.size; omega⟩
      | true => exact ⟨t1, by show _ ≤ w2.heap.size + 1; omega⟩
    | mv => cases hp; exact World.ownsRow_nil _ _ _ _
    | fr => cases hp; exact World.ownsRow_nil _ _ _ _
    | mt => cases hp
    | rw t i =>
      simp only [kC] at hp
      split at hp
      · rename_i hi
        cases hp
        exact own_upd (own_rebase (hl.row (r := .rw t i) (if_pos (by omega))) (by omega)) (Upd.of_below (S := fun _ => False) bN) (fun _ _ => id)
      · cases hp
  · have c1 := ch r p k h1 h3
    have c2 := ch r' p' k h2 h4
    cases r <;> cases r' <;> simp only [kChar] at c1 c2 <;> first | rfl | omega | skip
    · have e := c1.2.2.out.symm.trans c2.2.2.out
      rename_i t t'
      cases t <;> cases t' <;> simp [bT] at e <;> rfl
    · rename_i t i t' i'
      have := hl.sep (.rw t i) (.rw t' i') _ _ k (if_pos (by omega)) (if_pos (by omega)) c1.2.2.2 c2.2.2.2
      cases this
      rfl
  · have hk' := (h.lt hk).2
    obtain ⟨r, p, h1, h2⟩ := hf
    have c1 := ch r p k h1 h2
    cases r <;> simp only [kChar] at c1 <;> omega
theorem SkAt.pop (h : SkAt W base P K L0 M0 x L l s w) {p c : Nat} {f : Fr} {r : List Fr} (hf : s.M.q p c = f :: r) (hp : p < P) (hc : c < K) (hbase : base ≤ W.heap.size) :
    Calls Try.prog 39 #[.pointer (some ⟨L0.bb, 0, none⟩), .int .i64 p, .int .i64 c] w fun e w' => e = .returned (frV f) ∧ ∃ L', SkAt W base P K L0 M0 x L' l ⟨popM s.M p c, s.mv, s.fr⟩ w' := by
  have hs := h.size
  have hb := h.bbe
  have := pop_ok p c f r hf h.box_ hp hc (by omega)
  rw [hb] at this
  refine this.mono ?_
  rintro e w' ⟨v, he, hq⟩
  refine ⟨he, locQ L p c v, ?_⟩
  have e2 : mdQ s.M p c r (freX (s.M.gv p c)) = popM s.M p c := by unfold popM; rw [hf]; rfl
  rw [e2] at hq
  exact h.box rfl hq
/-- Behind append: the row of frames has grown, the cell still holds the old slice. -/
theorem SkAt.midF (h : SkAt W base P K L0 M0 x L l s w) (gr : w.grownBy w2 l.frv.ownBlock) :
    w2.cell? ⟨l.hb, 0, none⟩ = some (.pointer (some ⟨L0.bb, 0, none⟩)) ∧ w2.cell? ⟨l.fb, 0, none⟩ = some l.frv ∧ w2.frozen? ⟨l.fb, 0, none⟩ = false := by
  have hr : kC P K L.bb x l s .fr = some (.row l.frv 39 6 s.fr.length (flC frC s.fr)) := rfl
  have u := Upd.of_grownV gr
  have q1 : Blk w2 l.hb 26 [.pointer (some ⟨L.bb, 0, none⟩)] := (h.lo.blk (r := .hb) rfl).upd u fun e => by
    have := h.lo.sep .hb .fr _ _ l.hb rfl hr rfl e
    cases this
  have q2 : Blk w2 l.fb 30 [l.frv] := (h.lo.blk (r := .fb) rfl).upd u fun e => by
    have := h.lo.sep .fb .fr _ _ l.fb rfl hr rfl e
    cases this
  rw [← h.bbe]
  exact ⟨q1.cell (i := 0) rfl, q2.cell (i := 0) rfl, q2.free 0⟩
theorem SkAt.midM (h : SkAt W base P K L0 M0 x L l s w) (gr : w.grownBy w2 l.mvv.ownBlock) :
    w2.cell? ⟨l.mb, 0, none⟩ = some l.mvv ∧ w2.frozen? ⟨l.mb, 0, none⟩ = false := by
  have hr : kC P K L.bb x l s .mv = some (.row l.mvv 34 3 s.mv.length (flC mvC s.mv)) := rfl
  have u := Upd.of_grownV gr
  have q2 : Blk w2 l.mb 29 [l.mvv] := (h.lo.blk (r := .mb) rfl).upd u fun e => by
    have := h.lo.sep .mb .mv _ _ l.mb rfl hr rfl e
    cases this
  exact ⟨q2.cell (i := 0) rfl, q2.free 0⟩
def KnRel (f : Nat → SS) (n : Nat) (KS : SS → World → Prop) (iv : Value) (w : World) : Prop := ∃ k ≤ n, iv = .int .i64 k ∧ KS (f k) w
end
end Go.Proofs.Ytkooihniieepcaa
namespace Go.Proofs.Ytkooihniieepcaa
open Go.RowKit
set_option linter.unusedVariables false
theorem St.add {ρ : Type} [DecidableEq ρ] {w w' : World} {base : Nat} {C : ρ → Option Pc} {S : Nat → Prop} (h : St w base C) (r : ρ) (p' : Pc) (hr : C r = none) (u : Upd S w w') (hs : ∀ k, ftC C k → ¬ S k) (hp : p'.at w' base) (hf : ∀ k, p'.foot = some k → w.heap.size ≤ k) : St w' base (setC C r p') := by
  have h1 := h.upd u hs
  refine ⟨fun x p hx => ?_, fun x x' p p2 k h2 h3 h4 h5 => ?_⟩
  · by_cases e : x = r
    · subst e
      rw [setC_same] at hx
      cases hx
      exact hp
    · rw [setC_ne C p' e] at hx
      exact h1.at_ x p hx
  · have key : ∀ y q, y ≠ r → C y = some q → q.foot = some k → p'.foot = some k → False := fun y q hy hq hk hk' => by
      have a1 := (h.lt ⟨y, q, hq, hk⟩).2
      have a2 := hf k hk'
      omega
    by_cases e : x = r
    · by_cases e' : x' = r
      · rw [e, e']
      · subst e
        rw [setC_same] at h2
        cases h2
        rw [setC_ne C p' e'] at h3
        exact (key x' p2 e' h3 h5 h4).elim
    · rw [setC_ne C p' e] at h2
      by_cases e' : x' = r
      · subst e'
        rw [setC_same] at h3
        cases h3
        exact (key x p e h2 h4 h5).elim
      · rw [setC_ne C p' e'] at h3
        exact h.sep x x' p p2 k h2 h3 h4 h5
section
variable {r1 r2 : Nat → Nat → Bool} {n : Nat} {b : Bar.St}
theorem ok_congr (h : ∀ i < n, ∀ k < n, r1 i k = r2 i k) (o : Bar.Ok r1 n b) : Bar.Ok r2 n b :=
  ⟨o.g, o.a, fun i hi => (o.m i hi).imp id fun ⟨k, hk, e, hr⟩ => ⟨k, hk, e, by rw [← h i hi k hk]; exact hr⟩, o.t, o.inj⟩
theorem maxi_congr (h : ∀ i < n, ∀ k < n, r1 i k = r2 i k) (o : Bar.Maxi r1 n b) : Bar.Maxi r2 n b :=
  fun i hi k hk hr => o i hi k hk (by rw [h i hi k hk]; exact hr)
end
section
variable {W w w' w1 w2 : World} {base P K : Nat} {L0 L L' : Loc} {M0 M M' : Md} {x : Bool → Nat → List Int} {l : KL} {s : SS}
/-- The crossbar's pointers have changed. -/
theorem BoxAt.setX (h : BoxAt w base P K L M) {g a : Nat → Nat} (hg : ∀ k < P, g k < P) (ha : ∀ k < P, a k < P) (hb : Go.Proofs.Ytkooihniieepcaa.BarAt w' L.xb P g a) (u : Upd (fun k => k = L.xb) w w') : BxPost w base P K L M L { M with g := g, a := a } w' := by
  have hr : conf P K L M .bar = some (.blk L.xb 95 ((List.range 17).map (barF P M.g M.a))) := rfl
  have hs := h.st.put .bar (.blk L.xb 95 ((List.range 17).map (barF P g a))) u (fun k hk _ => ⟨_, hr, by rw [hk]; rfl⟩) ⟨hb, (h.st.at_ .bar _ hr).2⟩ (fun k hk => .inl ⟨_, hr, hk⟩)
  have hcf := conf_bar P K L M g a
  refine ⟨⟨hs.congr hcf, ⟨h.ok.p1, h.ok.p8, h.ok.k1, h.ok.k8, h.ok.gv, h.ok.gb, h.ok.tk, h.ok.ql, h.ok.qm, h.ok.ptr, hg, ha⟩⟩, u.mono fun k _ hk => ⟨_, _, hr, by rw [hk]; rfl⟩, fun k hk => ?_⟩
  rcases ftC_set (ftC_congr hcf hk) with e | e
  · exact .inl e
  · exact .inl ⟨_, _, hr, e⟩
/-- What a matching gives. -/
def Matched (P : Nat) (rq : Nat → Nat → Bool) (b : Bar.St) : Prop := Bar.Ok rq P b ∧ Bar.Maxi rq P b
theorem SkAt.match_ (h : SkAt W base P K L0 M0 x L l s w) (hm : l.mt = none) {lb : Nat} {rb : Nat → Nat} {q rq : Nat → Nat → Bool} (hq : St w1 w.heap.size (rqC lb rb q P P)) (e : ∀ i < P, ∀ k < P, q i k = rq i k) (hb : Below w.heap.size w w1) :
    Calls Try.prog 42 #[.pointer (some ⟨L.xb, 0, none⟩), .slice (some ⟨lb, 0, none⟩) P P, .int .i64 P] w1 fun e w2 =>
      ∃ b, e = .returned (.tuple #[.slice (some ⟨w1.heap.size, 0, none⟩) P P, .int .i64 0]) ∧ Matched P rq b ∧ SkAt W base P K L0 M0 x L { l with mt := some (w1.heap.size, (List.range P).map (iF b.m)) } ⟨{ s.M with g := b.g, a := b.a }, s.mv, s.fr⟩ w2 := by
  have h1 := h.below hb
  have p1 := h.box_.ok.p1
  have p8 := h.box_.ok.p8
  have hx : L.xb < w.heap.size := Blk.lt (h.box_.st.blk (r := .bar) rfl)
  have hl := rq_req hq
  have hlen : (rqRows rb q P).length = P := by simp [rqRows]
  have hrl : ∀ r ∈ rqRows rb q P, r.xs.length = P := by
    intro r hr
    obtain ⟨i, hi, rfl⟩ := List.mem_map.1 hr
    simp
  have hoff : Off (some ⟨lb, 0, none⟩) (rqRows rb q P) (fun j => j = L.xb) := by
    refine ⟨fun _ e => ?_, fun r hr _ e => ?_⟩
    · have := (hq.lt (k := lb) ⟨none, _, rfl, rfl⟩).1
      have e : lb = L.xb := e
      omega
    · obtain ⟨i, hi, rfl⟩ := List.mem_map.1 hr
      have hi := List.mem_range.1 hi
      have e : rb i = L.xb := e
      have := (rq_at hq hi (k := 0) (by omega)).2.2
      omega
  have hM := match_ok w1 L.xb P P s.M.g s.M.a (some ⟨lb, 0, none⟩) P (rqRows rb q P) h1.box_.barr hl (by unfold maxLen; omega) (fun r hr => by rw [hrl r hr]; unfold maxLen; omega) rq_sq p1 p8 p1 p8 h1.box_.ok.g h1.box_.ok.a hoff
  rw [hlen] at hM
  refine hM.mono ?_
  rintro e2 w2 ⟨rfl, hA, hF, hU⟩
  have hR : ∀ i < P, ∀ k < P, reqF (rqRows rb q P) i k = rq i k := fun i hi k hk => (rq_F hi hk).trans (e i hi k hk)
  have hs := Bar.start_ok (req := reqF (rqRows rb q P)) h1.box_.ok.g h1.box_.ok.a
  have hok := Bar.rounds_ok hs P
  have hmx := Bar.rounds_maxi hs
  generalize Bar.rounds (reqF (rqRows rb q P)) P (Bar.start s.M.g s.M.a) P = b at *
  refine ⟨b, rfl, ⟨ok_congr hR hok, maxi_congr hR hmx⟩, ?_⟩
  have hB := h1.box_.setX hok.g hok.a hA hU
  have hz : ∀ k, ftC (kC P K L.bb x l s) k → ¬ k = L.xb := fun k hk e => h1.ap k ⟨.bar, _, rfl, by rw [e]; rfl⟩ hk
  have hS := h1.lo.add .mt (.blk w1.heap.size 3 ((List.range P).map (iF b.m))) (by show l.mt.map _ = none; rw [hm]; rfl) hU hz ⟨hF, h1.size⟩ (fun k hk => by
    have : w1.heap.size = k := Option.some.inj hk
    omega)
  have ee : ∀ r, setC (kC P K L.bb x l s) .mt (.blk w1.heap.size 3 ((List.range P).map (iF b.m))) r = kC P K L.bb x { l with mt := some (w1.heap.size, (List.range P).map (iF b.m)) } ⟨{ s.M with g := b.g, a := b.a }, s.mv, s.fr⟩ r := fun r => by
    cases r <;> rfl
  refine ⟨h1.bx.trans hB, hS.congr ee, fun k hk hf => ?_, h1.bbe⟩
  have hk1 : boxS P K L s.M k := by
    rcases hB.2.2 k hk with h2 | h2
    · exact h2
    · exfalso
      rcases ftC_set (ftC_congr (conf_bar P K L s.M b.g b.a) hk) with h3 | h3
      · have := (h1.box_.lt h3).2; omega
      · have : L.xb = k := Option.some.inj h3
        have := hb.size
        omega
  rcases ftC_set (ftC_congr ee hf) with h2 | h2
  · exact h1.ap k hk1 h2
  · have e1 : w1.heap.size = k := Option.some.inj h2
    have := (h1.box_.lt hk1).2
    omega
/-- The pointer of an input has changed. -/
theorem BoxAt.setP (h : BoxAt w base P K L M) {i y : Nat} (hi : i < P) (hy : y < K) : BxPost w base P K L M L (ptrM M i y) (w.setCell ⟨L.bb, 26 + i, none⟩ (.int .i64 (y : Int))) := by
  have h8 := h.ok.p8
  have hr : conf P K L M .box = some (.blk L.bb 73 ((List.range 36).map (boxF P K L M.ptr))) := rfl
  have hs := h.st.store (r := .box) (k := L.bb) (T := 73) (i := 26 + i) (v := .int .i64 (y : Int)) hr rfl
  have hcf := conf_ptr P K L M i y (by omega)
  refine ⟨⟨hs.congr hcf, ⟨h.ok.p1, h.ok.p8, h.ok.k1, h.ok.k8, h.ok.gv, h.ok.gb, h.ok.tk, h.ok.ql, h.ok.qm, fun p hp => ?_, h.ok.g, h.ok.a⟩⟩, (Upd.refl _ _).setCell ⟨L.bb, 26 + i, none⟩ _ fun _ => ⟨_, _, hr, rfl⟩, fun k hk => ?_⟩
  · show Bar.upd M.ptr i y p < K
    by_cases e : p = i
    · rw [e, Bar.upd_same]; exact hy
    · rw [Bar.upd_ne _ _ e]; exact h.ok.ptr p hp
  · rcases ftC_set (ftC_congr hcf hk) with e | e
    · exact .inl e
    · exact .inl ⟨_, _, hr, e⟩
theorem SkAt.setP (h : SkAt W base P K L0 M0 x L l s w) {i y : Nat} (hi : i < P) (hy : y < K) : SkAt W base P K L0 M0 x L l ⟨ptrM s.M i y, s.mv, s.fr⟩ (w.setCell ⟨L0.bb, 26 + i, none⟩ (.int .i64 (y : Int))) := by
  rw [← h.bbe]
  exact h.box rfl (h.box_.setP hi hy)
theorem SkAt.take (h : SkAt W base P K L0 M0 x L l s w) {k c : Nat} (hk : k < P) (hc : c < K) :
    Calls Try.prog 44 #[.pointer (some ⟨L.tk k c, 0, none⟩), .int .i64 0] w fun e w' => (∃ n, e = .returned (.int .i64 n)) ∧ SkAt W base P K L0 M0 x L l ⟨takM s.M k c, s.mv, s.fr⟩ w' := by
  refine (tak_ok w base _ _ 0 _ _ (h.box_.taker hk hc) rfl (h.box_.ok.tk k hk c hc) (by simp)).mono ?_
  rintro e w' ⟨rfl, h1, h2⟩
  exact ⟨⟨_, rfl⟩, h.box rfl (h.box_.setT hk hc (tak_tok (h.box_.ok.tk k hk c hc)) h1 h2)⟩
/-- What a round of the second loop reads: in any world of the same state. -/
theorem SkAt.cells (h : SkAt W base P K L0 M0 x L l s w) {i : Nat} (hi : i < P) : w.cell? ⟨l.hb, 0, none⟩ = some (.pointer (some ⟨L0.bb, 0, none⟩)) ∧ w.cell? ⟨L0.bb, 0, none⟩ = some (.int .i64 P) ∧ w.cell? ⟨L0.bb, 1, none⟩ = some (.int .i64 K) ∧ w.cell? ⟨L0.bb, 26 + i, none⟩ = some (.int .i64 (s.M.ptr i)) ∧ w.frozen? ⟨L0.bb, 26 + i, none⟩ = false := by
  have h8 := h.box_.ok.p8
  refine ⟨h.chb, ?_⟩
  rw [← h.bbe]
  exact ⟨h.box_.cP, h.box_.cK, h.box_.cI (by omega), h.box_.hbox.free _⟩
theorem SkAt.cmt (h : SkAt W base P K L0 M0 x L l s w) {b : Nat} {m : Nat → Int} (hm : l.mt = some (b, (List.range P).map (iF m))) {i : Nat} (hi : i < P) : w.cell? ⟨b, i, none⟩ = some (.int .i64 (m i)) := by
  have hr : kC P K L.bb x l s .mt = some (.blk b 3 ((List.range P).map (iF m))) := by
    show l.mt.map _ = _
    rw [hm]
    rfl
  exact (show Fun w b 3 P (iF m) from h.lo.blk (r := .mt) hr).cell hi
theorem KSt.below {hb mb fb : Nat} {tb : Bool → Nat} {tv : Bool → Nat → Value} {mt : Option (Nat × List Value)} (h : KSt W base P K L0 M0 x hb mb fb tb tv mt s w) (q : Below w.heap.size w w') : KSt W base P K L0 M0 x hb mb fb tb tv mt s w' := by
  obtain ⟨L, mvv, frv, h⟩ := h
  exact ⟨L, mvv, frv, h.below q⟩
theorem SkAt.sameM (h : SkAt W base P K L0 M0 x L l s w) : SkAt W base P K L0 M0 x L l s (w.setCell ⟨l.mb, 0, none⟩ l.mvv) := by
  have hr2 : kC P K L.bb x l s .mb = some (.blk l.mb 29 [l.mvv]) := rfl
  have s2 := h.lo.store (r := .mb) (k := l.mb) (T := 29) (l := [l.mvv]) (i := 0) (v := l.mvv) (l' := [l.mvv]) rfl rfl
  have ee : ∀ r, setC (kC P K L.bb x l s) .mb (.blk l.mb 29 [l.mvv]) r = kC P K L.bb x l s r := fun r => by cases r <;> rfl
  exact h.loc rfl ((Upd.refl (fun k => k = l.mb) w).setCell ⟨l.mb, 0, none⟩ l.mvv fun _ => rfl) (fun k hk => .inl ⟨_, _, hr2, by rw [hk]; rfl⟩) (s2.congr ee) fun k hk => .inl hk
theorem SkAt.sameF (h : SkAt W base P K L0 M0 x L l s w) : SkAt W base P K L0 M0 x L l s (w.setCell ⟨l.fb, 0, none⟩ l.frv) := by
  have hr2 : kC P K L.bb x l s .fb = some (.blk l.fb 30 [l.frv]) := rfl
  have s2 := h.lo.store (r := .fb) (k := l.fb) (T := 30) (l := [l.frv]) (i := 0) (v := l.frv) (l' := [l.frv]) rfl rfl
  have ee : ∀ r, setC (kC P K L.bb x l s) .fb (.blk l.fb 30 [l.frv]) r = kC P K L.bb x l s r := fun r => by cases r <;> rfl
  exact h.loc rfl ((Upd.refl (fun k => k = l.fb) w).setCell ⟨l.fb, 0, none⟩ l.frv fun _ => rfl) (fun k hk => .inl ⟨_, _, hr2, by rw [hk]; rfl⟩) (s2.congr ee) fun k hk => .inl hk
def CnRel (K : Nat) (o : Nat → Nat → Int) (i k : Nat) (s : SS) (KS : SS → World → Prop) (iv : Value) (w : World) : Prop :=
  ∃ n ≤ K, iv = .int .i64 n ∧ KS s w ∧ ∀ j < n, rdyB s.M o i k ((s.M.ptr i + j) % K) = false
end
end Go.Proofs.Ytkooihniieepcaa
