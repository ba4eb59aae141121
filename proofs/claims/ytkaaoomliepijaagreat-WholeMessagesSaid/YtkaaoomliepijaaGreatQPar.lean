/-
  A region that draws its order, whose last operation (a store) waits for all others: the others are walked as a region of their own, and the last one behind it.
  A drawn region whose operations (calls that only make new blocks, new blocks of its own) may come up in many orders: one obligation an operation, none an order.
-/
import Derived.Test.YtkaaoomliepijaaGreatQLib
import Derived.StillTail
import Derived.Deep.RegionHeld
namespace Go.Proofs.YtkaaoomliepijaaGreat
open Go.RowKit
set_option linter.unusedVariables false

/-- In the place of the last operation: it does nothing, and waits for the same ones. -/
def nopFor (o : Oper) : Oper := ⟨none, .move (.const (.bool true)), o.type, o.pos, o.after, none⟩
/-- The region without its last operation. -/
def sansLast (ops : Array Oper) (n : Nat) : Array Oper := ops.setIfInBounds n (nopFor (ops.getD n default))
/-- Behind the others: the last operation, and then Q. -/
def LastQ (P : Program) (ops : Array Oper) (o : Oper) (Q : Exit → Act → World → Prop) : Exit → Act → World → Prop
  | .normal, a, w => wpList P ops Q [o] a w
  | .exit i, a, w => Q (.exit i) a w
  | .goto l, a, w => Q (.goto l) a w
  | .ret, a, w => Q .ret a w
  | .panic c, a, w => Q (.panic c) a w
  | .outgrown, a, w => Q .outgrown a w

section
variable {P : Program} {ops : Array Oper} {Q : Exit → Act → World → Prop} {md : Region.Mode} {n : Nat}
theorem sansLast_size : (sansLast ops n).size = ops.size := by unfold sansLast; simp
theorem sansLast_ne {i : Nat} (h : i ≠ n) : (sansLast ops n)[i]? = ops[i]? := by
  unfold sansLast
  rw [Array.getElem?_setIfInBounds_ne (Ne.symm h)]
theorem sansLast_at (h : n < ops.size) : (sansLast ops n)[n]? = some (nopFor (ops.getD n default)) := by
  unfold sansLast
  rw [Array.getElem?_setIfInBounds_self_of_lt h]
theorem sansLast_getD (h : n < ops.size) : ops[n]? = some (ops.getD n default) := by
  simp [h]
/-- Which may come up hangs on the grounds for waiting alone. -/
theorem sansLast_ready (h : n < ops.size) (listed : Array Bool) : Region.ready md (sansLast ops n) listed = Region.ready md ops listed := by
  unfold Region.ready
  rw [sansLast_size]
  congr 1
  funext i
  by_cases e : i = n
  · subst e
    rw [sansLast_at h, sansLast_getD h]
    rfl
  · rw [sansLast_ne e]
theorem sansLast_yielded (h : n < ops.size) (hd : (ops.getD n default).dst = none) (t : Array Value) : yielded (sansLast ops n) t = yielded ops t := by
  funext j
  unfold yielded
  by_cases e : j = n
  · subst e
    rw [sansLast_at h, sansLast_getD h]
    show (match (none : Option Tmp).bind (t[·]?) with | some (.bool b) => some b | _ => none) = (match (((ops.getD j default)).dst).bind (t[·]?) with | some (.bool b) => some b | _ => none)
    rw [hd]
  · rw [sansLast_ne e]
theorem LastQ.lets {o : Oper} (h : LetsOut (LastQ P ops o Q)) : LetsOut Q := h
theorem LastQ.oper {o o2 : Oper} {a : Act} {w : World} {K : Act → World → Prop} (h : o.wp P a w K (LastQ P ops o2 Q)) : o.wp P a w K Q := by
  unfold Oper.wp at *
  generalize (execOp a.eval o).run P w = r at *
  cases r with
  | ok n w' =>
    cases n <;> simp only [Oper.upon] at h ⊢ <;>
      first
        | exact h
        | exact Calls.mono h (fun e w'' he => by cases e <;> exact he)
  | halt x w' => cases x <;> simp only [Oper.upon] at h ⊢ <;> exact h
/-- An operation waits for earlier ones alone. -/
def backB (md : Region.Mode) (ops : Array Oper) : Bool := (List.range ops.size).all fun i => (ops.getD i default).after.all fun e => !Region.binds md e || decide (e.on < i)
theorem backB_ready (hb : backB md ops = true) {listed : Array Bool} (hz : listed.size = ops.size) (hr : Region.ready md ops listed = []) : ∀ i, i < ops.size → listed.getD i true = true := by
  intro i
  induction i using Nat.strongRecOn with
  | _ i ih =>
    intro hi
    cases hl : listed.getD i true with
    | true => rfl
    | false =>
      exfalso
      have hm : i ∈ Region.ready md ops listed := mem_ready.2 ⟨hl, _, sansLast_getD hi, fun e he hbe => by
        have h1 := List.all_eq_true.1 hb i (List.mem_range.2 hi)
        have h2 := Array.all_eq_true'.1 h1 e he
        rw [hbe] at h2
        have h3 : e.on < i := by simpa using h2
        have h4 := ih e.on h3 (by omega)
        cases h5 : listed.getD e.on false with
        | true => rfl
        | false =>
          rw [getD_in (by omega) h5] at h4
          cases h4⟩
      rw [hr] at hm
      cases hm
theorem wpAny_end {listed : Array Bool} {a : Act} {w : World} (hr : Region.ready md ops listed = []) : ∀ (f : Nat), wpAny P md ops Q f listed a w ↔ Q .normal a w
  | 0 => ⟨fun h => h.2, fun h => ⟨hr, h⟩⟩
  | f + 1 => ⟨fun h => h.1 hr, fun h => ⟨fun _ => h, by rw [hr]; intro i hi; cases hi⟩⟩
theorem nop_wp {o : Oper} {a : Act} {w : World} {K : Act → World → Prop} (h : (nopFor o).wp P a w K Q ∨ ((nopFor o).asks P a w ∧ LetsOut Q)) : K a w := by
  rcases h with h | h
  · exact h
  · exfalso
    have h1 := h.1.1
    have h2 : ((execOp a.eval (nopFor o)).runT P w #[]).2 = #[] := rfl
    rw [h2] at h1
    simp at h1
theorem wpAny_last (hb : backB md ops = true) (h : n < ops.size) (hd : (ops.getD n default).dst = none) (hs : Region.sinkB md ops n = true) (hc : Region.chainB md ops n = true) (hl : n + 1 = ops.size) :
    ∀ (f : Nat) (listed : Array Bool) (a : Act) (w : World), HeadInv md ops n listed → wpAny P md (sansLast ops n) (LastQ P ops (ops.getD n default) Q) f listed a w → wpAny P md ops Q f listed a w := by
  have nr : ∀ listed : Array Bool, listed.getD n true = false → HeadInv md ops n listed → Region.ready md ops listed ≠ [] := fun listed h1 inv h2 => by
    have h3 := backB_ready hb inv.size h2 n h
    rw [h1] at h3
    cases h3
  intro f
  induction f with
  | zero =>
    intro listed a w inv H
    rw [wpAny, sansLast_ready h] at H
    exact absurd H.1 (nr _ (inv.tail n (Nat.le_refl _) h) inv)
  | succ f ih =>
    intro listed a w inv H
    rw [wpAny, sansLast_ready h] at H
    refine ⟨fun h0 => absurd h0 (nr _ (inv.tail n (Nat.le_refl _) h) inv), fun i hi => ?_⟩
    have h1 := H.2 i hi
    unfold wpOp at h1 ⊢
    rw [sansLast_yielded h hd] at h1
    by_cases e : i = n
    · subst e
      have hall : ∀ j, j < i → listed.getD j true = true := fun j hj => by
        cases hl : listed.getD j true with
        | true => rfl
        | false => exact absurd hi (tail_waits hs hc h inv _ j rfl hj hl i (Nat.le_refl _))
      have hr : Region.ready md ops (listed.setIfInBounds i true) = [] := by
        rw [List.eq_nil_iff_forall_not_mem]
        intro j hj
        obtain ⟨h2, oj, hoj, _⟩ := mem_ready.1 hj
        have h3 : j < ops.size := (Array.getElem?_eq_some_iff.1 hoj).1
        by_cases hji : i = j
        · subst hji
          have : i < listed.size := by rw [inv.size]; exact h
          simp [this] at h2
        · rw [getD_set_ne true hji, hall j (by omega)] at h2
          cases h2
      rw [sansLast_at h] at h1
      have hg := sansLast_getD h
      have h2 := (wpAny_end (by rw [sansLast_ready h]; exact hr) f).1 (nop_wp h1)
      simp only [LastQ, wpList] at h2
      generalize ops.getD i default = o at h2 hg
      rw [hg]
      by_cases hw : Region.wanted o (yielded ops a.tmps) = true
      · rw [if_pos hw] at h2
        simp only [if_pos hw]
        exact h2.imp (Oper.wp_mono fun a w hq => (wpAny_end hr f).2 hq) id
      · rw [if_neg hw] at h2
        simp only [if_neg hw]
        exact (wpAny_end hr f).2 h2
    · rw [sansLast_ne e] at h1
      have hin : i < n := by
        have := (List.mem_filter.1 hi).1
        have := List.mem_range.1 this
        omega
      have st : ∀ a' w', wpAny P md (sansLast ops n) (LastQ P ops (ops.getD n default) Q) f (listed.setIfInBounds i true) a' w' → wpAny P md ops Q f (listed.setIfInBounds i true) a' w' := fun a' w' hh => ih _ a' w' (inv.set hi hin) hh
      cases ho : ops[i]? with
      | none => rw [ho] at h1; exact st _ _ h1
      | some o =>
        rw [ho] at h1
        simp only at h1 ⊢
        split
        · rename_i hw
          rw [if_pos hw] at h1
          exact h1.imp (fun h => LastQ.oper (Oper.wp_mono st h)) id
        · rename_i hw
          rw [if_neg hw] at h1
          exact st _ _ h1
/-- The move: the region without its last operation, which comes behind it. -/
def lastB (md : Region.Mode) (ops : Array Oper) (n : Nat) : Bool := backB md ops && decide (n + 1 = ops.size) && (ops.getD n default).dst.isNone && Region.sinkB md ops n && Region.chainB md ops n
theorem wp_region_last {id : Nat} {a : Act} {w : World} (n : Nat) (hm : P.follows .mixedOrders = true) (hB : lastB .any ops n = true)
    (h : wpAny P .any (sansLast ops n) (LastQ P ops (ops.getD n default) Q) (sansLast ops n).size (Array.replicate (sansLast ops n).size false) a w.drew) : (Code.region id ops true).wp P Q a w := by
  simp only [lastB, Bool.and_eq_true, decide_eq_true_eq, Option.isNone_iff_eq_none] at hB
  obtain ⟨⟨⟨⟨hb, hn⟩, hd⟩, hs⟩, hc⟩ := hB
  rw [sansLast_size] at h
  refine wp_region_any hm (wpAny_last hb (by omega) hd hs hc hn _ _ _ _ ⟨by simp, fun j oj _ hl => (by rw [getD_replicate_false] at hl; cases hl), fun t _ ht => getD_in (by simpa using ht) (getD_replicate_false _ _)⟩ h)
/-- The same, with a condition on the world that holds till the last operation. -/
theorem wp_region_lastH {l : List Oper} {id : Nat} {a : Act} {w : World} {o : Oper} (S : World → Prop) (n m : Nat) (hm : P.follows .mixedOrders = true) (hB : lastB .any l.toArray n = true) (ho : l[n]? = some o) (hz : l.toArray.size = m) (hS : S w.drew)
    (h : S w.drew → wpAnyH P .any (l.set n (nopFor o)).toArray (LastQ P l.toArray o Q) S m (Array.replicate m false) a w.drew) : (Code.region id l.toArray true).wp P Q a w := by
  have ho' : l.toArray[n]? = some o := by simpa using ho
  have e : l.toArray.getD n default = o := by
    have h1 : n < l.toArray.size := (Array.getElem?_eq_some_iff.1 ho').1
    rw [sansLast_getD h1] at ho'
    exact Option.some.inj ho'
  refine wp_region_last n hm hB ?_
  rw [sansLast_size, hz]
  unfold sansLast
  rw [e, List.setIfInBounds_toArray]
  exact wpAny_of_held _ _ _ _ (h hS)
theorem wpAnyH_takeL {l : List Oper} {S : World → Prop} {i : Nat} {oi : Oper} {v : Value} {fuel : Nat} {listed : Array Bool} {a : Act} {w : World} (hi : l[i]? = some oi)
    (hs : Region.noSelect l.toArray = true) (hf : Region.free md l.toArray listed i = true) (hr : (Region.ready md l.toArray listed).contains i = true)
    (hQ : ∀ c a w, Q (.panic c) (a.put oi.dst v) w → Q (.panic c) a w) (hg : oi.guard = none) (hy : ∀ w, S w → (execOp a.eval oi).run P w = .ok (.value v) w) (hS : S w)
    (h : wpAnyH P md l.toArray Q S fuel (listed.setIfInBounds i true) (a.put oi.dst v) w) : wpAnyH P md l.toArray Q S (fuel + 1) listed a w :=
  wpAnyH_take (by simpa using hi) hs hf hr hQ (.inl ⟨by simp [Region.wanted, hg], hy⟩) hS h
theorem LastQ_normal {a : Act} {w : World} {o : Oper} : LastQ P ops o Q .normal a w = wpList P ops Q [o] a w := rfl
/-- The only operation that may come up. -/
theorem wpAnyH_step {l : List Oper} {S : World → Prop} {i f : Nat} {o : Oper} {listed : Array Bool} {a : Act} {w : World} (hr : Region.ready md l.toArray listed = [i]) (ho : l[i]? = some o)
    (h : ∀ K' : Act → World → Prop, Shut (∀ a w, S w → (S w → wpAnyH P md l.toArray Q S f (listed.setIfInBounds i true) a w) → K' a w) → if Region.wanted o (yielded l.toArray a.tmps) = true then Oper.wp P o a w K' Q else K' (a.put o.dst undef) w) :
    wpAnyH P md l.toArray Q S (f + 1) listed a w := wpAnyH_ready hr (by simp) (AllReadyH.cons (by simpa using ho) h AllReadyH.nil)
/-- An operation that its guard shuts out. -/
theorem wpAnyH_skipL {l : List Oper} {S : World → Prop} {i : Nat} {oi : Oper} {fuel : Nat} {listed : Array Bool} {a : Act} {w : World} (hi : l[i]? = some oi)
    (hs : Region.noSelect l.toArray = true) (hf : Region.free md l.toArray listed i = true) (hr : (Region.ready md l.toArray listed).contains i = true)
    (hQ : ∀ c a w, Q (.panic c) (a.put oi.dst undef) w → Q (.panic c) a w) (hw : Region.wanted oi (yielded l.toArray a.tmps) = false) (hS : S w)
    (h : wpAnyH P md l.toArray Q S fuel (listed.setIfInBounds i true) (a.put oi.dst undef) w) : wpAnyH P md l.toArray Q S (fuel + 1) listed a w :=
  wpAnyH_take (by simpa using hi) hs hf hr hQ (.inr ⟨hw, rfl⟩) hS h
/-- A guarded operation whose guard holds. -/
theorem wpAnyH_takeG {l : List Oper} {S : World → Prop} {i : Nat} {oi : Oper} {v : Value} {fuel : Nat} {listed : Array Bool} {a : Act} {w : World} (hi : l[i]? = some oi)
    (hs : Region.noSelect l.toArray = true) (hf : Region.free md l.toArray listed i = true) (hr : (Region.ready md l.toArray listed).contains i = true)
    (hQ : ∀ c a w, Q (.panic c) (a.put oi.dst v) w → Q (.panic c) a w) (hw : Region.wanted oi (yielded l.toArray a.tmps) = true) (hy : ∀ w, S w → (execOp a.eval oi).run P w = .ok (.value v) w) (hS : S w)
    (h : wpAnyH P md l.toArray Q S fuel (listed.setIfInBounds i true) (a.put oi.dst v) w) : wpAnyH P md l.toArray Q S (fuel + 1) listed a w :=
  wpAnyH_take (by simpa using hi) hs hf hr hQ (.inl ⟨hw, hy⟩) hS h
/-- A whole region. -/
theorem wp_region_allH {l : List Oper} {id : Nat} {a : Act} {w : World} (S : World → Prop) (m : Nat) (hm : P.follows .mixedOrders = true) (hz : l.toArray.size = m) (hS : S w.drew)
    (h : S w.drew → wpAnyH P .any l.toArray Q S m (Array.replicate m false) a w.drew) : (Code.region id l.toArray true).wp P Q a w := by
  refine wp_region_held_drew hm hS fun hs => ?_
  rw [hz]
  exact h hs
end
end Go.Proofs.YtkaaoomliepijaaGreat
namespace Go.Proofs.YtkaaoomliepijaaGreat
open Go.RowKit
set_option linter.unusedVariables false

theorem put_getDQ (a : Act) (d j : Nat) (v : Value) : (a.put (some d) v).tmps.getD j undef = if j = d ∧ d < a.tmps.size then v else a.tmps.getD j undef := by
  show (a.tmps.setIfInBounds d v).getD j undef = _
  by_cases h : j = d ∧ d < a.tmps.size
  · rw [if_pos h]
    obtain ⟨rfl, h⟩ := h
    simp [h]
  · rw [if_neg h]
    by_cases e : j = d
    · subst e
      have : ¬ j < a.tmps.size := fun x => h ⟨rfl, x⟩
      simp [this]
    · simp [Array.getElem?_setIfInBounds, Ne.symm e]
theorem put_sizeQ (a : Act) (d : Nat) (v : Value) : (a.put (some d) v).tmps.size = a.tmps.size := by simp [Act.put]
theorem act_extQ {a b : Act} (h1 : a.defers = b.defers) (h2 : a.tmps.size = b.tmps.size) (h3 : ∀ j, a.tmps.getD j undef = b.tmps.getD j undef) : a = b := by
  obtain ⟨t, d⟩ := a
  obtain ⟨t', d'⟩ := b
  have e : t = t' := by
    apply Array.ext h2
    intro j g1 g2
    have h := h3 j
    have g2 : j < t'.size := g2
    have g1 : j < t.size := g1
    have e1 : t.getD j undef = t[j] := by simp [g1]
    have e2 : t'.getD j undef = t'[j] := by simp [g2]
    exact e1.symm.trans (h.trans e2)
  subst e
  have h1 : d = d' := h1
  subst h1
  rfl
/-- The frame with the values x in the slots ds. -/
def putsD (a : Act) : List Nat → (Nat → Value) → Act
  | [], _ => a
  | d :: ds, x => (putsD a ds x).put (some d) (x d)
theorem putsD_size (a : Act) (x : Nat → Value) : ∀ ds, (putsD a ds x).tmps.size = a.tmps.size
  | [] => rfl
  | d :: ds => by rw [putsD, put_sizeQ, putsD_size a x ds]
theorem putsD_df (a : Act) (x : Nat → Value) : ∀ ds, (putsD a ds x).defers = a.defers
  | [] => rfl
  | d :: ds => by
    show (putsD a ds x).defers = _
    exact putsD_df a x ds
theorem putsD_getD (a : Act) (x : Nat → Value) (j : Nat) : ∀ ds : List Nat, (∀ d ∈ ds, d < a.tmps.size) → (putsD a ds x).tmps.getD j undef = if j ∈ ds then x j else a.tmps.getD j undef
  | [], _ => by simp [putsD]
  | d :: ds, h => by
    rw [putsD, put_getDQ, putsD_size, putsD_getD a x j ds fun e he => h e (List.mem_cons_of_mem _ he)]
    have hd := h d List.mem_cons_self
    by_cases e : j = d
    · subst e; simp [hd]
    · simp [e]
section
variable {P : Program} {Q : Exit → Act → World → Prop} {S : World → Prop} {l : List Oper} {I : List Nat} {d : Nat → Nat} {dep : Nat → List Nat} {V : Nat → Value → World → Prop} {Ext : World → World → Prop} {fin : Array Bool} {a0 : Act}
/-- In every order the operations of I come up before the others, and then the list is fin. -/
def parB (ops : Array Oper) (I : List Nat) (fin : Array Bool) : Nat → Array Bool → Bool
  | 0, ls => decide (ls = fin)
  | f + 1, ls => !(Region.ready .any ops ls).isEmpty && (Region.ready .any ops ls).all fun i => I.contains i && parB ops I fin f (ls.setIfInBounds i true)
/-- What is told of I: each is a plain operation with a slot of its own that waits for those of dep. -/
def parI (ops : Array Oper) (I : List Nat) (d : Nat → Nat) (dep : Nat → List Nat) : Bool :=
  I.all fun i => decide (i < ops.size) && (ops.getD i default).guard.isNone && ((ops.getD i default).dst == some (d i)) && (I.all fun j => i == j || d i != d j) &&
    (dep i).all fun j => I.contains j && (ops.getD i default).after.any fun e => e.on == j && Region.binds .any e
/-- Pointers to different blocks. -/
def Apt (v u : Value) : Prop := ∀ b c, v = .pointer (some ⟨b, 0, none⟩) → u = .pointer (some ⟨c, 0, none⟩) → b ≠ c
structure PInv (S : World → Prop) (I : List Nat) (d : Nat → Nat) (V : Nat → Value → World → Prop) (a0 : Act) (ls : Array Bool) (a : Act) (w : World) : Prop where
  s : S w
  df : a.defers = a0.defers
  sz : a.tmps.size = a0.tmps.size
  fr : ∀ j, (∀ i ∈ I, d i ≠ j) → a.tmps.getD j undef = a0.tmps.getD j undef
  v : ∀ i ∈ I, ls.getD i false = true → V i (a.tmps.getD (d i) undef) w
  ap : ∀ i ∈ I, ∀ j ∈ I, i ≠ j → ls.getD i false = true → ls.getD j false = true → Apt (a.tmps.getD (d i) undef) (a.tmps.getD (d j) undef)
theorem PInv.puts {ls : Array Bool} {a : Act} {w : World} (h : PInv S I d V a0 ls a w) (hd : ∀ i ∈ I, d i < a0.tmps.size) : a = putsD a0 (I.map d) (fun j => a.tmps.getD j undef) := by
  refine act_extQ (h.df.trans (putsD_df _ _ _).symm) (h.sz.trans (putsD_size _ _ _).symm) fun j => ?_
  rw [putsD_getD]
  · by_cases e : j ∈ I.map d
    · rw [if_pos e]
    · rw [if_neg e]
      exact h.fr j fun i hi x => e (List.mem_map.2 ⟨i, hi, x⟩)
  · intro x hx
    obtain ⟨i, hi, rfl⟩ := List.mem_map.1 hx
    exact hd i hi
theorem par_run (t : Nat) (hI : parI l.toArray I d dep = true) (hd : ∀ i ∈ I, d i < a0.tmps.size)
    (hext : ∀ i ∈ I, ∀ v w w', Ext w w' → V i v w → V i v w')
    (hstep : ∀ i ∈ I, ∀ a w, S w → (∀ j, (∀ k ∈ I, d k ≠ j) → a.tmps.getD j undef = a0.tmps.getD j undef) → (∀ j ∈ dep i, V j (a.tmps.getD (d j) undef) w) →
      ∀ K : Act → World → Prop, (∀ v w', S w' → V i v w' → Ext w w' → (∀ k ∈ I, k ≠ i → ∀ u, V k u w → Apt v u) → K (a.put (some (d i)) v) w') → Oper.wp P (l.getD i default) a w K Q)
    (hend : ∀ a w, PInv S I d V a0 fin a w → (∀ i ∈ I, fin.getD i false = true) → wpAnyH P .any l.toArray Q S t fin a w) (hfin : ∀ i ∈ I, fin.getD i false = true) :
    ∀ (n : Nat) (ls : Array Bool) (a : Act) (w : World), ls.size = l.length → parB l.toArray I fin n ls = true → PInv S I d V a0 ls a w → wpAnyH P .any l.toArray Q S (n + t) ls a w
  | 0, ls, a, w, hz, hB, h => by
    unfold parB at hB
    have e := of_decide_eq_true hB
    subst e
    rw [Nat.zero_add]
    exact hend a w h hfin
  | n + 1, ls, a, w, hz, hB, h => by
    unfold parB at hB
    rw [Bool.and_eq_true, List.all_eq_true] at hB
    obtain ⟨h1, h2⟩ := hB
    rw [Nat.succ_add]
    refine wpAnyH_all rfl (by intro e; rw [e] at h1; simp at h1) fun i hi => ?_
    obtain ⟨hun, oi, hoi, haft⟩ := mem_ready.1 hi
    have h3 := h2 i hi
    rw [Bool.and_eq_true] at h3
    obtain ⟨h3, h4⟩ := h3
    have hiI : i ∈ I := by simpa using h3
    have h5 := List.all_eq_true.1 hI i hiI
    simp only [Bool.and_eq_true, decide_eq_true_eq, beq_iff_eq] at h5
    obtain ⟨⟨⟨⟨h6, h7⟩, h8⟩, h9⟩, h10⟩ := h5
    have hget : l.toArray.getD i default = oi := by simp [Array.getD_eq_getD_getElem?, hoi]
    rw [hget] at h7 h8 h10
    have hlg : l.getD i default = oi := by
      have := hoi
      simp at this
      simp [List.getD_eq_getElem?_getD, this]
    have hil : i < ls.size := by rw [hz]; simpa using h6
    have hdi := hd i hiI
    refine wpOp_step hoi fun K' hK' => ?_
    have hg : oi.guard = none := by cases e : oi.guard <;> simp_all
    rw [if_pos (by simp [Region.wanted, hg])]
    have hs := hstep i hiI a w h.s h.fr (fun j hj => by
      have h11 := List.all_eq_true.1 h10 j hj
      rw [Bool.and_eq_true] at h11
      obtain ⟨h12, h13⟩ := h11
      obtain ⟨e, he, h14⟩ := Array.any_eq_true'.1 h13
      simp only [Bool.and_eq_true, beq_iff_eq] at h14
      have h15 := haft e he h14.2
      rw [h14.1] at h15
      exact h.v j (by simpa using h12) h15) K'
    rw [hlg] at hs
    refine hs fun v w' hS hV hE hA => hK' _ _ ⟨hS, ?_⟩
    have hdn : ∀ k ∈ I, k ≠ i → d k ≠ d i := fun k hk e => by
      have h16 := List.all_eq_true.1 h9 k hk
      simp only [Bool.or_eq_true, beq_iff_eq, bne_iff_ne, ne_eq] at h16
      rcases h16 with h16 | h16
      · exact absurd h16.symm e
      · exact fun x => h16 x.symm
    have hlsn : ∀ k, k ≠ i → (ls.setIfInBounds i true).getD k false = true → ls.getD k false = true := fun k e hlk => by
      rw [Array.getD_eq_getD_getElem?, Array.getElem?_setIfInBounds_ne (fun x => e x.symm)] at hlk
      rw [Array.getD_eq_getD_getElem?]
      exact hlk
    refine par_run t hI hd hext hstep hend hfin n _ _ _ (by simpa using hz) h4 ⟨hS, h.df, ?_, ?_, ?_, ?_⟩
    · rw [put_sizeQ]; exact h.sz
    · intro j hj
      rw [put_getDQ, if_neg (fun e => hj i hiI e.1.symm)]
      exact h.fr j hj
    · intro k hk hlk
      rw [put_getDQ]
      by_cases e : k = i
      · subst e
        rw [if_pos ⟨rfl, by rw [h.sz]; exact hdi⟩]
        exact hV
      · rw [if_neg (fun x => hdn k hk e x.1)]
        exact hext k hk _ _ _ hE (h.v k hk (hlsn k e hlk))
    · intro k hk j hj hkj hlk hlj
      rw [put_getDQ, put_getDQ]
      by_cases e : k = i
      · subst e
        rw [if_pos ⟨rfl, by rw [h.sz]; exact hdi⟩, if_neg (fun x => hdn j hj (fun y => hkj y.symm) x.1)]
        exact hA j hj (fun y => hkj y.symm) _ (h.v j hj (hlsn j (fun y => hkj y.symm) hlj))
      · rw [if_neg (fun x => hdn k hk e x.1)]
        by_cases e2 : j = i
        · subst e2
          rw [if_pos ⟨rfl, by rw [h.sz]; exact hdi⟩]
          have := hA k hk e _ (h.v k hk (hlsn k e hlk))
          exact fun b c hb hc x => this c b hc hb x.symm
        · rw [if_neg (fun x => hdn j hj e2 x.1)]
          exact h.ap k hk j hj hkj (hlsn k e hlk) (hlsn j e2 hlj)
/-- The whole: from the frame a0 on, none of I has come up. -/
theorem par_go {w : World} (n t : Nat) (ls : Array Bool) (hz : ls.size = l.length) (hB : parB l.toArray I fin n ls = true) (hI : parI l.toArray I d dep = true) (hfin : (I.all fun i => fin.getD i false && !ls.getD i false) = true)
    (hd : ∀ i ∈ I, d i < a0.tmps.size) (hext : ∀ i ∈ I, ∀ v w w', Ext w w' → V i v w → V i v w')
    (hstep : ∀ i ∈ I, ∀ a w, S w → (∀ j, (∀ k ∈ I, d k ≠ j) → a.tmps.getD j undef = a0.tmps.getD j undef) → (∀ j ∈ dep i, V j (a.tmps.getD (d j) undef) w) →
      ∀ K : Act → World → Prop, (∀ v w', S w' → V i v w' → Ext w w' → (∀ k ∈ I, k ≠ i → ∀ u, V k u w → Apt v u) → K (a.put (some (d i)) v) w') → Oper.wp P (l.getD i default) a w K Q) (hS : S w)
    (hend : ∀ (x : Nat → Value) w, S w → (∀ i ∈ I, V i (x (d i)) w) → (∀ i ∈ I, ∀ j ∈ I, i ≠ j → Apt (x (d i)) (x (d j))) → wpAnyH P .any l.toArray Q S t fin (putsD a0 (I.map d) x) w) :
    wpAnyH P .any l.toArray Q S (n + t) ls a0 w := by
  have hf : ∀ i ∈ I, fin.getD i false = true ∧ ls.getD i false = false := fun i hi => by
    have := List.all_eq_true.1 hfin i hi
    simp only [Bool.and_eq_true, Bool.not_eq_true'] at this
    exact this
  refine par_run t hI hd hext hstep (fun a w h hx => ?_) (fun i hi => (hf i hi).1) n ls a0 w hz hB ⟨hS, rfl, rfl, fun _ _ => rfl, (fun i hi h => by rw [(hf i hi).2] at h; cases h), (fun i hi j hj _ h => by rw [(hf i hi).2] at h; cases h)⟩
  have e := h.puts hd
  have h2 := hend (fun j => a.tmps.getD j undef) w h.s (fun i hi => h.v i hi (hx i hi)) (fun i hi j hj e => h.ap i hi j hj e (hx i hi) (hx j hj))
  rw [← e] at h2
  exact h2
/-- A call of a Go function, by its contract. -/
theorem op_callQ {o : Oper} {a : Act} {w : World} {K : Act → World → Prop} {f : FuncId} {xs : Array Operand} {ts : Array TypeId} {args : Array Value} {R : Ending → World → Prop}
    (ho : o.op = .call { callee := .value (.func f), args := xs, argTypes := ts }) (he : (execOp a.eval o).run P w = .ok (.enter f args) w) (hC : Calls P f args w R)
    (hR : ∀ e w', R e w' → ∃ v, e = .returned v ∧ K (a.put o.dst v) w') : Oper.wp P o a w K Q := by
  unfold Oper.wp
  rw [he, Oper.upon_enter]
  refine hC.mono fun e w' h => ?_
  obtain ⟨v, rfl, hk⟩ := hR e w' h
  exact hk
theorem run_callQ {o : Oper} {b : Act} {w : World} {f : FuncId} {xs : Array Operand} {ts : Array TypeId} (ho : o.op = .call { callee := .value (.func f), args := xs, argTypes := ts })
    (hE : ∀ args w, (callFunc f args).run P w = .ok (.enter f args) w) : (execOp b.eval o).run P w = .ok (.enter f (xs.map b.eval)) w := by
  unfold execOp
  simp only [ho, resolve, invoke, Sem.run_bind, Sem.run_pure, Result.andThen_ok]
  simp [Act.eval, Deferred.ofValue, hE]
theorem op_call1 {o : Oper} {a : Act} {w : World} {K : Act → World → Prop} {f : FuncId} {x1 : Tmp} {ts : Array TypeId} {v1 : Value} {R : Ending → World → Prop}
    (ho : o.op = .call { callee := .value (.func f), args := #[.tmp x1], argTypes := ts }) (hE : ∀ args w, (callFunc f args).run P w = .ok (.enter f args) w) (e1 : a.tmps.getD x1 undef = v1) (hC : Calls P f #[v1] w R)
    (hR : ∀ e w', R e w' → ∃ v, e = .returned v ∧ K (a.put o.dst v) w') : Oper.wp P o a w K Q := by
  refine op_callQ ho (run_callQ ho hE) ?_ hR
  have e : (#[Operand.tmp x1].map a.eval) = #[v1] := by
    have h1 : a.eval (.tmp x1) = v1 := e1
    simp [h1]
  rw [e]
  exact hC
theorem op_call2 {o : Oper} {a : Act} {w : World} {K : Act → World → Prop} {f : FuncId} {x1 x2 : Tmp} {ts : Array TypeId} {v1 v2 : Value} {R : Ending → World → Prop}
    (ho : o.op = .call { callee := .value (.func f), args := #[.tmp x1, .tmp x2], argTypes := ts }) (hE : ∀ args w, (callFunc f args).run P w = .ok (.enter f args) w) (e1 : a.tmps.getD x1 undef = v1) (e2 : a.tmps.getD x2 undef = v2)
    (hC : Calls P f #[v1, v2] w R) (hR : ∀ e w', R e w' → ∃ v, e = .returned v ∧ K (a.put o.dst v) w') : Oper.wp P o a w K Q := by
  refine op_callQ ho (run_callQ ho hE) ?_ hR
  have e : (#[Operand.tmp x1, .tmp x2].map a.eval) = #[v1, v2] := by
    have h1 : a.eval (.tmp x1) = v1 := e1
    have h2 : a.eval (.tmp x2) = v2 := e2
    simp [h1, h2]
  rw [e]
  exact hC
theorem op_valueQ {o : Oper} {a : Act} {w w' : World} {K : Act → World → Prop} {v : Value} (h : (execOp a.eval o).run P w = .ok (.value v) w') (hk : K (a.put o.dst v) w') : Oper.wp P o a w K Q := by
  unfold Oper.wp
  rw [h]
  exact hk
end
end Go.Proofs.YtkaaoomliepijaaGreat
