/-
  A region that draws its order, whose last operation (a store) waits for all others: the others are walked as a region of their own, and the last one behind it.
-/
import Derived.Test.YtbdaehcngmhhcaaLib
import Derived.StillTail
import Derived.Deep.RegionHeld
namespace Go.Proofs.Ytbdaehcngmhhcaa
open Go.RowKit
set_option linter.unusedVariables false

/-- In the place of the last operation: it does nothing, and waits for the same ones. -/
def nopFor (o : Oper) : Oper := ⟨none, .move (.const (.bool true)), o.type, o.pos, o.after, none⟩
/-- The region without its last operation. -/
def sansLast (ops : Array Oper) (n : Nat) : Array Oper := ops.setIfInBounds n (nopFor (ops.getD n default))
/-- Behind the others: the last operation, and then Q. -/
def LastQ (P : Program) (ops : Array Oper) (o : Oper) (Q : Exit → Act → World → Prop) : Exit → Act → World → Prop
  | .normal, a, w => wpList P ops Q [o] a w
  | .exit i, a, w => Q (.exit i) a w
  | .goto l, a, w => Q (.goto l) a w
  | .ret, a, w => Q .ret a w
  | .panic c, a, w => Q (.panic c) a w
  | .outgrown, a, w => Q .outgrown a w

section
variable {P : Program} {ops : Array Oper} {Q : Exit → Act → World → Prop} {md : Region.Mode} {n : Nat}
theorem sansLast_size : (sansLast ops n).size = ops.size := by unfold sansLast; simp
theorem sansLast_ne {i : Nat} (h : i ≠ n) : (sansLast ops n)[i]? = ops[i]? := by
  unfold sansLast
  rw [Array.getElem?_setIfInBounds_ne (Ne.symm h)]
theorem sansLast_at (h : n < ops.size) : (sansLast ops n)[n]? = some (nopFor (ops.getD n default)) := by
  unfold sansLast
  rw [Array.getElem?_setIfInBounds_self_of_lt h]
theorem sansLast_getD (h : n < ops.size) : ops[n]? = some (ops.getD n default) := by
  simp [h]
/-- Which may come up hangs on the grounds for waiting alone. -/
theorem sansLast_ready (h : n < ops.size) (listed : Array Bool) : Region.ready md (sansLast ops n) listed = Region.ready md ops listed := by
  unfold Region.ready
  rw [sansLast_size]
  congr 1
  funext i
  by_cases e : i = n
  · subst e
    rw [sansLast_at h, sansLast_getD h]
    rfl
  · rw [sansLast_ne e]
theorem sansLast_yielded (h : n < ops.size) (hd : (ops.getD n default).dst = none) (t : Array Value) : yielded (sansLast ops n) t = yielded ops t := by
  funext j
  unfold yielded
  by_cases e : j = n
  · subst e
    rw [sansLast_at h, sansLast_getD h]
    show (match (none : Option Tmp).bind (t[·]?) with | some (.bool b) => some b | _ => none) = (match (((ops.getD j default)).dst).bind (t[·]?) with | some (.bool b) => some b | _ => none)
    rw [hd]
  · rw [sansLast_ne e]
theorem LastQ.lets {o : Oper} (h : LetsOut (LastQ P ops o Q)) : LetsOut Q := h
theorem LastQ.oper {o o2 : Oper} {a : Act} {w : World} {K : Act → World → Prop} (h : o.wp P a w K (LastQ P ops o2 Q)) : o.wp P a w K Q := by
  unfold Oper.wp at *
  generalize (execOp a.eval o).run P w = r at *
  cases r with
  | ok n w' =>
    cases n <;> simp only [Oper.upon] at h ⊢ <;>
      first
        | exact h
        | exact Calls.mono h (fun e w'' he => by cases e <;> exact he)
  | halt x w' => cases x <;> simp only [Oper.upon] at h ⊢ <;> exact h
/-- An operation waits for earlier ones alone. -/
def backB (md : Region.Mode) (ops : Array Oper) : Bool := (List.range ops.size).all fun i => (ops.getD i default).after.all fun e => !Region.binds md e || decide (e.on < i)
theorem backB_ready (hb : backB md ops = true) {listed : Array Bool} (hz : listed.size = ops.size) (hr : Region.ready md ops listed = []) : ∀ i, i < ops.size → listed.getD i true = true := by
  intro i
  induction i using Nat.strongRecOn with
  | _ i ih =>
    intro hi
    cases hl : listed.getD i true with
    | true => rfl
    | false =>
      exfalso
      have hm : i ∈ Region.ready md ops listed := mem_ready.2 ⟨hl, _, sansLast_getD hi, fun e he hbe => by
        have h1 := List.all_eq_true.1 hb i (List.mem_range.2 hi)
        have h2 := Array.all_eq_true'.1 h1 e he
        rw [hbe] at h2
        have h3 : e.on < i := by simpa using h2
        have h4 := ih e.on h3 (by omega)
        cases h5 : listed.getD e.on false with
        | true => rfl
        | false =>
          rw [getD_in (by omega) h5] at h4
          cases h4⟩
      rw [hr] at hm
      cases hm
theorem wpAny_end {listed : Array Bool} {a : Act} {w : World} (hr : Region.ready md ops listed = []) : ∀ (f : Nat), wpAny P md ops Q f listed a w ↔ Q .normal a w
  | 0 => ⟨fun h => h.2, fun h => ⟨hr, h⟩⟩
  | f + 1 => ⟨fun h => h.1 hr, fun h => ⟨fun _ => h, by rw [hr]; intro i hi; cases hi⟩⟩
theorem nop_wp {o : Oper} {a : Act} {w : World} {K : Act → World → Prop} (h : (nopFor o).wp P a w K Q ∨ ((nopFor o).asks P a w ∧ LetsOut Q)) : K a w := by
  rcases h with h | h
  · exact h
  · exfalso
    have h1 := h.1.1
    have h2 : ((execOp a.eval (nopFor o)).runT P w #[]).2 = #[] := rfl
    rw [h2] at h1
    simp at h1
theorem wpAny_last (hb : backB md ops = true) (h : n < ops.size) (hd : (ops.getD n default).dst = none) (hs : Region.sinkB md ops n = true) (hc : Region.chainB md ops n = true) (hl : n + 1 = ops.size) :
    ∀ (f : Nat) (listed : Array Bool) (a : Act) (w : World), HeadInv md ops n listed → wpAny P md (sansLast ops n) (LastQ P ops (ops.getD n default) Q) f listed a w → wpAny P md ops Q f listed a w := by
  have nr : ∀ listed : Array Bool, listed.getD n true = false → HeadInv md ops n listed → Region.ready md ops listed ≠ [] := fun listed h1 inv h2 => by
    have h3 := backB_ready hb inv.size h2 n h
    rw [h1] at h3
    cases h3
  intro f
  induction f with
  | zero =>
    intro listed a w inv H
    rw [wpAny, sansLast_ready h] at H
    exact absurd H.1 (nr _ (inv.tail n (Nat.le_refl _) h) inv)
  | succ f ih =>
    intro listed a w inv H
    rw [wpAny, sansLast_ready h] at H
    refine ⟨fun h0 => absurd h0 (nr _ (inv.tail n (Nat.le_refl _) h) inv), fun i hi => ?_⟩
    have h1 := H.2 i hi
    unfold wpOp at h1 ⊢
    rw [sansLast_yielded h hd] at h1
    by_cases e : i = n
    · subst e
      have hall : ∀ j, j < i → listed.getD j true = true := fun j hj => by
        cases hl : listed.getD j true with
        | true => rfl
        | false => exact absurd hi (tail_waits hs hc h inv _ j rfl hj hl i (Nat.le_refl _))
      have hr : Region.ready md ops (listed.setIfInBounds i true) = [] := by
        rw [List.eq_nil_iff_forall_not_mem]
        intro j hj
        obtain ⟨h2, oj, hoj, _⟩ := mem_ready.1 hj
        have h3 : j < ops.size := (Array.getElem?_eq_some_iff.1 hoj).1
        by_cases hji : i = j
        · subst hji
          have : i < listed.size := by rw [inv.size]; exact h
          simp [this] at h2
        · rw [getD_set_ne true hji, hall j (by omega)] at h2
          cases h2
      rw [sansLast_at h] at h1
      have hg := sansLast_getD h
      have h2 := (wpAny_end (by rw [sansLast_ready h]; exact hr) f).1 (nop_wp h1)
      simp only [LastQ, wpList] at h2
      generalize ops.getD i default = o at h2 hg
      rw [hg]
      by_cases hw : Region.wanted o (yielded ops a.tmps) = true
      · rw [if_pos hw] at h2
        simp only [if_pos hw]
        exact h2.imp (Oper.wp_mono fun a w hq => (wpAny_end hr f).2 hq) id
      · rw [if_neg hw] at h2
        simp only [if_neg hw]
        exact (wpAny_end hr f).2 h2
    · rw [sansLast_ne e] at h1
      have hin : i < n := by
        have := (List.mem_filter.1 hi).1
        have := List.mem_range.1 this
        omega
      have st : ∀ a' w', wpAny P md (sansLast ops n) (LastQ P ops (ops.getD n default) Q) f (listed.setIfInBounds i true) a' w' → wpAny P md ops Q f (listed.setIfInBounds i true) a' w' := fun a' w' hh => ih _ a' w' (inv.set hi hin) hh
      cases ho : ops[i]? with
      | none => rw [ho] at h1; exact st _ _ h1
      | some o =>
        rw [ho] at h1
        simp only at h1 ⊢
        split
        · rename_i hw
          rw [if_pos hw] at h1
          exact h1.imp (fun h => LastQ.oper (Oper.wp_mono st h)) id
        · rename_i hw
          rw [if_neg hw] at h1
          exact st _ _ h1
/-- The move: the region without its last operation, which comes behind it. -/
def lastB (md : Region.Mode) (ops : Array Oper) (n : Nat) : Bool := backB md ops && decide (n + 1 = ops.size) && (ops.getD n default).dst.isNone && Region.sinkB md ops n && Region.chainB md ops n
theorem wp_region_last {id : Nat} {a : Act} {w : World} (n : Nat) (hm : P.follows .mixedOrders = true) (hB : lastB .any ops n = true)
    (h : wpAny P .any (sansLast ops n) (LastQ P ops (ops.getD n default) Q) (sansLast ops n).size (Array.replicate (sansLast ops n).size false) a w.drew) : (Code.region id ops true).wp P Q a w := by
  simp only [lastB, Bool.and_eq_true, decide_eq_true_eq, Option.isNone_iff_eq_none] at hB
  obtain ⟨⟨⟨⟨hb, hn⟩, hd⟩, hs⟩, hc⟩ := hB
  rw [sansLast_size] at h
  refine wp_region_any hm (wpAny_last hb (by omega) hd hs hc hn _ _ _ _ ⟨by simp, fun j oj _ hl => (by rw [getD_replicate_false] at hl; cases hl), fun t _ ht => getD_in (by simpa using ht) (getD_replicate_false _ _)⟩ h)
/-- The same, with a condition on the world that holds till the last operation. -/
theorem wp_region_lastH {l : List Oper} {id : Nat} {a : Act} {w : World} {o : Oper} (S : World → Prop) (n m : Nat) (hm : P.follows .mixedOrders = true) (hB : lastB .any l.toArray n = true) (ho : l[n]? = some o) (hz : l.toArray.size = m) (hS : S w.drew)
    (h : S w.drew → wpAnyH P .any (l.set n (nopFor o)).toArray (LastQ P l.toArray o Q) S m (Array.replicate m false) a w.drew) : (Code.region id l.toArray true).wp P Q a w := by
  have ho' : l.toArray[n]? = some o := by simpa using ho
  have e : l.toArray.getD n default = o := by
    have h1 : n < l.toArray.size := (Array.getElem?_eq_some_iff.1 ho').1
    rw [sansLast_getD h1] at ho'
    exact Option.some.inj ho'
  refine wp_region_last n hm hB ?_
  rw [sansLast_size, hz]
  unfold sansLast
  rw [e, List.setIfInBounds_toArray]
  exact wpAny_of_held _ _ _ _ (h hS)
theorem wpAnyH_takeL {l : List Oper} {S : World → Prop} {i : Nat} {oi : Oper} {v : Value} {fuel : Nat} {listed : Array Bool} {a : Act} {w : World} (hi : l[i]? = some oi)
    (hs : Region.noSelect l.toArray = true) (hf : Region.free md l.toArray listed i = true) (hr : (Region.ready md l.toArray listed).contains i = true)
    (hQ : ∀ c a w, Q (.panic c) (a.put oi.dst v) w → Q (.panic c) a w) (hg : oi.guard = none) (hy : ∀ w, S w → (execOp a.eval oi).run P w = .ok (.value v) w) (hS : S w)
    (h : wpAnyH P md l.toArray Q S fuel (listed.setIfInBounds i true) (a.put oi.dst v) w) : wpAnyH P md l.toArray Q S (fuel + 1) listed a w :=
  wpAnyH_take (by simpa using hi) hs hf hr hQ (.inl ⟨by simp [Region.wanted, hg], hy⟩) hS h
theorem LastQ_normal {a : Act} {w : World} {o : Oper} : LastQ P ops o Q .normal a w = wpList P ops Q [o] a w := rfl
/-- The only operation that may come up. -/
theorem wpAnyH_step {l : List Oper} {S : World → Prop} {i f : Nat} {o : Oper} {listed : Array Bool} {a : Act} {w : World} (hr : Region.ready md l.toArray listed = [i]) (ho : l[i]? = some o)
    (h : ∀ K' : Act → World → Prop, Shut (∀ a w, S w → (S w → wpAnyH P md l.toArray Q S f (listed.setIfInBounds i true) a w) → K' a w) → if Region.wanted o (yielded l.toArray a.tmps) = true then Oper.wp P o a w K' Q else K' (a.put o.dst undef) w) :
    wpAnyH P md l.toArray Q S (f + 1) listed a w := wpAnyH_ready hr (by simp) (AllReadyH.cons (by simpa using ho) h AllReadyH.nil)
/-- An operation that its guard shuts out. -/
theorem wpAnyH_skipL {l : List Oper} {S : World → Prop} {i : Nat} {oi : Oper} {fuel : Nat} {listed : Array Bool} {a : Act} {w : World} (hi : l[i]? = some oi)
    (hs : Region.noSelect l.toArray = true) (hf : Region.free md l.toArray listed i = true) (hr : (Region.ready md l.toArray listed).contains i = true)
    (hQ : ∀ c a w, Q (.panic c) (a.put oi.dst undef) w → Q (.panic c) a w) (hw : Region.wanted oi (yielded l.toArray a.tmps) = false) (hS : S w)
    (h : wpAnyH P md l.toArray Q S fuel (listed.setIfInBounds i true) (a.put oi.dst undef) w) : wpAnyH P md l.toArray Q S (fuel + 1) listed a w :=
  wpAnyH_take (by simpa using hi) hs hf hr hQ (.inr ⟨hw, rfl⟩) hS h
/-- A guarded operation whose guard holds. -/
theorem wpAnyH_takeG {l : List Oper} {S : World → Prop} {i : Nat} {oi : Oper} {v : Value} {fuel : Nat} {listed : Array Bool} {a : Act} {w : World} (hi : l[i]? = some oi)
    (hs : Region.noSelect l.toArray = true) (hf : Region.free md l.toArray listed i = true) (hr : (Region.ready md l.toArray listed).contains i = true)
    (hQ : ∀ c a w, Q (.panic c) (a.put oi.dst v) w → Q (.panic c) a w) (hw : Region.wanted oi (yielded l.toArray a.tmps) = true) (hy : ∀ w, S w → (execOp a.eval oi).run P w = .ok (.value v) w) (hS : S w)
    (h : wpAnyH P md l.toArray Q S fuel (listed.setIfInBounds i true) (a.put oi.dst v) w) : wpAnyH P md l.toArray Q S (fuel + 1) listed a w :=
  wpAnyH_take (by simpa using hi) hs hf hr hQ (.inl ⟨hw, hy⟩) hS h
/-- A whole region. -/
theorem wp_region_allH {l : List Oper} {id : Nat} {a : Act} {w : World} (S : World → Prop) (m : Nat) (hm : P.follows .mixedOrders = true) (hz : l.toArray.size = m) (hS : S w.drew)
    (h : S w.drew → wpAnyH P .any l.toArray Q S m (Array.replicate m false) a w.drew) : (Code.region id l.toArray true).wp P Q a w := by
  refine wp_region_held_drew hm hS fun hs => ?_
  rw [hz]
  exact h hs
end
end Go.Proofs.Ytbdaehcngmhhcaa
