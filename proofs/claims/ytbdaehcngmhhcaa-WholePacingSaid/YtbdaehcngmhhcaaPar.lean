/-
  A drawn region whose operations (calls that only make new blocks, new blocks of its own) may come up in many orders: one obligation an operation, none an order.
-/
import Derived.Test.YtbdaehcngmhhcaaLast
namespace Go.Proofs.Ytbdaehcngmhhcaa
open Go.RowKit
set_option linter.unusedVariables false

theorem put_getDQ (a : Act) (d j : Nat) (v : Value) : (a.put (some d) v).tmps.getD j undef = if j = d ∧ d < a.tmps.size then v else a.tmps.getD j undef := by
  show (a.tmps.setIfInBounds d v).getD j undef = _
  by_cases h : j = d ∧ d < a.tmps.size
  · rw [if_pos h]
    obtain ⟨rfl, h⟩ := h
    simp [h]
  · rw [if_neg h]
    by_cases e : j = d
    · subst e
      have : ¬ j < a.tmps.size := fun x => h ⟨rfl, x⟩
      simp [this]
    · simp [Array.getElem?_setIfInBounds, Ne.symm e]
theorem put_sizeQ (a : Act) (d : Nat) (v : Value) : (a.put (some d) v).tmps.size = a.tmps.size := by simp [Act.put]
theorem act_extQ {a b : Act} (h1 : a.defers = b.defers) (h2 : a.tmps.size = b.tmps.size) (h3 : ∀ j, a.tmps.getD j undef = b.tmps.getD j undef) : a = b := by
  obtain ⟨t, d⟩ := a
  obtain ⟨t', d'⟩ := b
  have e : t = t' := by
    apply Array.ext h2
    intro j g1 g2
    have h := h3 j
    have g2 : j < t'.size := g2
    have g1 : j < t.size := g1
    have e1 : t.getD j undef = t[j] := by simp [g1]
    have e2 : t'.getD j undef = t'[j] := by simp [g2]
    exact e1.symm.trans (h.trans e2)
  subst e
  have h1 : d = d' := h1
  subst h1
  rfl
/-- The frame with the values x in the slots ds. -/
def putsD (a : Act) : List Nat → (Nat → Value) → Act
  | [], _ => a
  | d :: ds, x => (putsD a ds x).put (some d) (x d)
theorem putsD_size (a : Act) (x : Nat → Value) : ∀ ds, (putsD a ds x).tmps.size = a.tmps.size
  | [] => rfl
  | d :: ds => by rw [putsD, put_sizeQ, putsD_size a x ds]
theorem putsD_df (a : Act) (x : Nat → Value) : ∀ ds, (putsD a ds x).defers = a.defers
  | [] => rfl
  | d :: ds => by
    show (putsD a ds x).defers = _
    exact putsD_df a x ds
theorem putsD_getD (a : Act) (x : Nat → Value) (j : Nat) : ∀ ds : List Nat, (∀ d ∈ ds, d < a.tmps.size) → (putsD a ds x).tmps.getD j undef = if j ∈ ds then x j else a.tmps.getD j undef
  | [], _ => by simp [putsD]
  | d :: ds, h => by
    rw [putsD, put_getDQ, putsD_size, putsD_getD a x j ds fun e he => h e (List.mem_cons_of_mem _ he)]
    have hd := h d List.mem_cons_self
    by_cases e : j = d
    · subst e; simp [hd]
    · simp [e]
section
variable {P : Program} {Q : Exit → Act → World → Prop} {S : World → Prop} {l : List Oper} {I : List Nat} {d : Nat → Nat} {dep : Nat → List Nat} {V : Nat → Value → World → Prop} {Ext : World → World → Prop} {fin : Array Bool} {a0 : Act}
/-- In every order the operations of I come up before the others, and then the list is fin. -/
def parB (ops : Array Oper) (I : List Nat) (fin : Array Bool) : Nat → Array Bool → Bool
  | 0, ls => decide (ls = fin)
  | f + 1, ls => !(Region.ready .any ops ls).isEmpty && (Region.ready .any ops ls).all fun i => I.contains i && parB ops I fin f (ls.setIfInBounds i true)
/-- What is told of I: each is a plain operation with a slot of its own that waits for those of dep. -/
def parI (ops : Array Oper) (I : List Nat) (d : Nat → Nat) (dep : Nat → List Nat) : Bool :=
  I.all fun i => decide (i < ops.size) && (ops.getD i default).guard.isNone && ((ops.getD i default).dst == some (d i)) && (I.all fun j => i == j || d i != d j) &&
    (dep i).all fun j => I.contains j && (ops.getD i default).after.any fun e => e.on == j && Region.binds .any e
/-- Pointers to different blocks. -/
def Apt (v u : Value) : Prop := ∀ b c, v = .pointer (some ⟨b, 0, none⟩) → u = .pointer (some ⟨c, 0, none⟩) → b ≠ c
structure PInv (S : World → Prop) (I : List Nat) (d : Nat → Nat) (V : Nat → Value → World → Prop) (a0 : Act) (ls : Array Bool) (a : Act) (w : World) : Prop where
  s : S w
  df : a.defers = a0.defers
  sz : a.tmps.size = a0.tmps.size
  fr : ∀ j, (∀ i ∈ I, d i ≠ j) → a.tmps.getD j undef = a0.tmps.getD j undef
  v : ∀ i ∈ I, ls.getD i false = true → V i (a.tmps.getD (d i) undef) w
  ap : ∀ i ∈ I, ∀ j ∈ I, i ≠ j → ls.getD i false = true → ls.getD j false = true → Apt (a.tmps.getD (d i) undef) (a.tmps.getD (d j) undef)
theorem PInv.puts {ls : Array Bool} {a : Act} {w : World} (h : PInv S I d V a0 ls a w) (hd : ∀ i ∈ I, d i < a0.tmps.size) : a = putsD a0 (I.map d) (fun j => a.tmps.getD j undef) := by
  refine act_extQ (h.df.trans (putsD_df _ _ _).symm) (h.sz.trans (putsD_size _ _ _).symm) fun j => ?_
  rw [putsD_getD]
  · by_cases e : j ∈ I.map d
    · rw [if_pos e]
    · rw [if_neg e]
      exact h.fr j fun i hi x => e (List.mem_map.2 ⟨i, hi, x⟩)
  · intro x hx
    obtain ⟨i, hi, rfl⟩ := List.mem_map.1 hx
    exact hd i hi
theorem par_run (t : Nat) (hI : parI l.toArray I d dep = true) (hd : ∀ i ∈ I, d i < a0.tmps.size)
    (hext : ∀ i ∈ I, ∀ v w w', Ext w w' → V i v w → V i v w')
    (hstep : ∀ i ∈ I, ∀ a w, S w → (∀ j, (∀ k ∈ I, d k ≠ j) → a.tmps.getD j undef = a0.tmps.getD j undef) → (∀ j ∈ dep i, V j (a.tmps.getD (d j) undef) w) →
      ∀ K : Act → World → Prop, (∀ v w', S w' → V i v w' → Ext w w' → (∀ k ∈ I, k ≠ i → ∀ u, V k u w → Apt v u) → K (a.put (some (d i)) v) w') → Oper.wp P (l.getD i default) a w K Q)
    (hend : ∀ a w, PInv S I d V a0 fin a w → (∀ i ∈ I, fin.getD i false = true) → wpAnyH P .any l.toArray Q S t fin a w) (hfin : ∀ i ∈ I, fin.getD i false = true) :
    ∀ (n : Nat) (ls : Array Bool) (a : Act) (w : World), ls.size = l.length → parB l.toArray I fin n ls = true → PInv S I d V a0 ls a w → wpAnyH P .any l.toArray Q S (n + t) ls a w
  | 0, ls, a, w, hz, hB, h => by
    unfold parB at hB
    have e := of_decide_eq_true hB
    subst e
    rw [Nat.zero_add]
    exact hend a w h hfin
  | n + 1, ls, a, w, hz, hB, h => by
    unfold parB at hB
    rw [Bool.and_eq_true, List.all_eq_true] at hB
    obtain ⟨h1, h2⟩ := hB
    rw [Nat.succ_add]
    refine wpAnyH_all rfl (by intro e; rw [e] at h1; simp at h1) fun i hi => ?_
    obtain ⟨hun, oi, hoi, haft⟩ := mem_ready.1 hi
    have h3 := h2 i hi
    rw [Bool.and_eq_true] at h3
    obtain ⟨h3, h4⟩ := h3
    have hiI : i ∈ I := by simpa using h3
    have h5 := List.all_eq_true.1 hI i hiI
    simp only [Bool.and_eq_true, decide_eq_true_eq, beq_iff_eq] at h5
    obtain ⟨⟨⟨⟨h6, h7⟩, h8⟩, h9⟩, h10⟩ := h5
    have hget : l.toArray.getD i default = oi := by simp [Array.getD_eq_getD_getElem?, hoi]
    rw [hget] at h7 h8 h10
    have hlg : l.getD i default = oi := by
      have := hoi
      simp at this
      simp [List.getD_eq_getElem?_getD, this]
    have hil : i < ls.size := by rw [hz]; simpa using h6
    have hdi := hd i hiI
    refine wpOp_step hoi fun K' hK' => ?_
    have hg : oi.guard = none := by cases e : oi.guard <;> simp_all
    rw [if_pos (by simp [Region.wanted, hg])]
    have hs := hstep i hiI a w h.s h.fr (fun j hj => by
      have h11 := List.all_eq_true.1 h10 j hj
      rw [Bool.and_eq_true] at h11
      obtain ⟨h12, h13⟩ := h11
      obtain ⟨e, he, h14⟩ := Array.any_eq_true'.1 h13
      simp only [Bool.and_eq_true, beq_iff_eq] at h14
      have h15 := haft e he h14.2
      rw [h14.1] at h15
      exact h.v j (by simpa using h12) h15) K'
    rw [hlg] at hs
    refine hs fun v w' hS hV hE hA => hK' _ _ ⟨hS, ?_⟩
    have hdn : ∀ k ∈ I, k ≠ i → d k ≠ d i := fun k hk e => by
      have h16 := List.all_eq_true.1 h9 k hk
      simp only [Bool.or_eq_true, beq_iff_eq, bne_iff_ne, ne_eq] at h16
      rcases h16 with h16 | h16
      · exact absurd h16.symm e
      · exact fun x => h16 x.symm
    have hlsn : ∀ k, k ≠ i → (ls.setIfInBounds i true).getD k false = true → ls.getD k false = true := fun k e hlk => by
      rw [Array.getD_eq_getD_getElem?, Array.getElem?_setIfInBounds_ne (fun x => e x.symm)] at hlk
      rw [Array.getD_eq_getD_getElem?]
      exact hlk
    refine par_run t hI hd hext hstep hend hfin n _ _ _ (by simpa using hz) h4 ⟨hS, h.df, ?_, ?_, ?_, ?_⟩
    · rw [put_sizeQ]; exact h.sz
    · intro j hj
      rw [put_getDQ, if_neg (fun e => hj i hiI e.1.symm)]
      exact h.fr j hj
    · intro k hk hlk
      rw [put_getDQ]
      by_cases e : k = i
      · subst e
        rw [if_pos ⟨rfl, by rw [h.sz]; exact hdi⟩]
        exact hV
      · rw [if_neg (fun x => hdn k hk e x.1)]
        exact hext k hk _ _ _ hE (h.v k hk (hlsn k e hlk))
    · intro k hk j hj hkj hlk hlj
      rw [put_getDQ, put_getDQ]
      by_cases e : k = i
      · subst e
        rw [if_pos ⟨rfl, by rw [h.sz]; exact hdi⟩, if_neg (fun x => hdn j hj (fun y => hkj y.symm) x.1)]
        exact hA j hj (fun y => hkj y.symm) _ (h.v j hj (hlsn j (fun y => hkj y.symm) hlj))
      · rw [if_neg (fun x => hdn k hk e x.1)]
        by_cases e2 : j = i
        · subst e2
          rw [if_pos ⟨rfl, by rw [h.sz]; exact hdi⟩]
          have := hA k hk e _ (h.v k hk (hlsn k e hlk))
          exact fun b c hb hc x => this c b hc hb x.symm
        · rw [if_neg (fun x => hdn j hj e2 x.1)]
          exact h.ap k hk j hj hkj (hlsn k e hlk) (hlsn j e2 hlj)
/-- The whole: from the frame a0 on, none of I has come up. -/
theorem par_go {w : World} (n t : Nat) (ls : Array Bool) (hz : ls.size = l.length) (hB : parB l.toArray I fin n ls = true) (hI : parI l.toArray I d dep = true) (hfin : (I.all fun i => fin.getD i false && !ls.getD i false) = true)
    (hd : ∀ i ∈ I, d i < a0.tmps.size) (hext : ∀ i ∈ I, ∀ v w w', Ext w w' → V i v w → V i v w')
    (hstep : ∀ i ∈ I, ∀ a w, S w → (∀ j, (∀ k ∈ I, d k ≠ j) → a.tmps.getD j undef = a0.tmps.getD j undef) → (∀ j ∈ dep i, V j (a.tmps.getD (d j) undef) w) →
      ∀ K : Act → World → Prop, (∀ v w', S w' → V i v w' → Ext w w' → (∀ k ∈ I, k ≠ i → ∀ u, V k u w → Apt v u) → K (a.put (some (d i)) v) w') → Oper.wp P (l.getD i default) a w K Q) (hS : S w)
    (hend : ∀ (x : Nat → Value) w, S w → (∀ i ∈ I, V i (x (d i)) w) → (∀ i ∈ I, ∀ j ∈ I, i ≠ j → Apt (x (d i)) (x (d j))) → wpAnyH P .any l.toArray Q S t fin (putsD a0 (I.map d) x) w) :
    wpAnyH P .any l.toArray Q S (n + t) ls a0 w := by
  have hf : ∀ i ∈ I, fin.getD i false = true ∧ ls.getD i false = false := fun i hi => by
    have := List.all_eq_true.1 hfin i hi
    simp only [Bool.and_eq_true, Bool.not_eq_true'] at this
    exact this
  refine par_run t hI hd hext hstep (fun a w h hx => ?_) (fun i hi => (hf i hi).1) n ls a0 w hz hB ⟨hS, rfl, rfl, fun _ _ => rfl, (fun i hi h => by rw [(hf i hi).2] at h; cases h), (fun i hi j hj _ h => by rw [(hf i hi).2] at h; cases h)⟩
  have e := h.puts hd
  have h2 := hend (fun j => a.tmps.getD j undef) w h.s (fun i hi => h.v i hi (hx i hi)) (fun i hi j hj e => h.ap i hi j hj e (hx i hi) (hx j hj))
  rw [← e] at h2
  exact h2
/-- A call of a Go function, by its contract. -/
theorem op_callQ {o : Oper} {a : Act} {w : World} {K : Act → World → Prop} {f : FuncId} {xs : Array Operand} {ts : Array TypeId} {args : Array Value} {R : Ending → World → Prop}
    (ho : o.op = .call { callee := .value (.func f), args := xs, argTypes := ts }) (he : (execOp a.eval o).run P w = .ok (.enter f args) w) (hC : Calls P f args w R)
    (hR : ∀ e w', R e w' → ∃ v, e = .returned v ∧ K (a.put o.dst v) w') : Oper.wp P o a w K Q := by
  unfold Oper.wp
  rw [he, Oper.upon_enter]
  refine hC.mono fun e w' h => ?_
  obtain ⟨v, rfl, hk⟩ := hR e w' h
  exact hk
theorem run_callQ {o : Oper} {b : Act} {w : World} {f : FuncId} {xs : Array Operand} {ts : Array TypeId} (ho : o.op = .call { callee := .value (.func f), args := xs, argTypes := ts })
    (hE : ∀ args w, (callFunc f args).run P w = .ok (.enter f args) w) : (execOp b.eval o).run P w = .ok (.enter f (xs.map b.eval)) w := by
  unfold execOp
  simp only [ho, resolve, invoke, Sem.run_bind, Sem.run_pure, Result.andThen_ok]
  simp [Act.eval, Deferred.ofValue, hE]
theorem op_call1 {o : Oper} {a : Act} {w : World} {K : Act → World → Prop} {f : FuncId} {x1 : Tmp} {ts : Array TypeId} {v1 : Value} {R : Ending → World → Prop}
    (ho : o.op = .call { callee := .value (.func f), args := #[.tmp x1], argTypes := ts }) (hE : ∀ args w, (callFunc f args).run P w = .ok (.enter f args) w) (e1 : a.tmps.getD x1 undef = v1) (hC : Calls P f #[v1] w R)
    (hR : ∀ e w', R e w' → ∃ v, e = .returned v ∧ K (a.put o.dst v) w') : Oper.wp P o a w K Q := by
  refine op_callQ ho (run_callQ ho hE) ?_ hR
  have e : (#[Operand.tmp x1].map a.eval) = #[v1] := by
    have h1 : a.eval (.tmp x1) = v1 := e1
    simp [h1]
  rw [e]
  exact hC
theorem op_call2 {o : Oper} {a : Act} {w : World} {K : Act → World → Prop} {f : FuncId} {x1 x2 : Tmp} {ts : Array TypeId} {v1 v2 : Value} {R : Ending → World → Prop}
    (ho : o.op = .call { callee := .value (.func f), args := #[.tmp x1, .tmp x2], argTypes := ts }) (hE : ∀ args w, (callFunc f args).run P w = .ok (.enter f args) w) (e1 : a.tmps.getD x1 undef = v1) (e2 : a.tmps.getD x2 undef = v2)
    (hC : Calls P f #[v1, v2] w R) (hR : ∀ e w', R e w' → ∃ v, e = .returned v ∧ K (a.put o.dst v) w') : Oper.wp P o a w K Q := by
  refine op_callQ ho (run_callQ ho hE) ?_ hR
  have e : (#[Operand.tmp x1, .tmp x2].map a.eval) = #[v1, v2] := by
    have h1 : a.eval (.tmp x1) = v1 := e1
    have h2 : a.eval (.tmp x2) = v2 := e2
    simp [h1, h2]
  rw [e]
  exact hC
theorem op_valueQ {o : Oper} {a : Act} {w w' : World} {K : Act → World → Prop} {v : Value} (h : (execOp a.eval o).run P w = .ok (.value v) w') (hk : K (a.put o.dst v) w') : Oper.wp P o a w K Q := by
  unfold Oper.wp
  rw [h]
  exact hk
end
end Go.Proofs.Ytbdaehcngmhhcaa
