/-
  What links have left when the rates of a filling are reserved one flow after the other, plainly.
  The rates of the flows of one link, as the law hands them to paced.
-/
import Derived.Test.YtbdaehcngmhhcaaFillN
import Derived.Test.YtbdaehcngmhhcaaPaced
namespace Go.Proofs.Ytbdaehcngmhhcaa
set_option linter.unusedVariables false

/-- What link l has left when the flows below i hold their rates. -/
def lft (N : Nt) (r : Nat → Int) (l i : Nat) : Int := N.C l - sI (fun j => if N.on l j then r j else 0) i
section
variable {N : Nt} {V U : Int} {fz : Nat → Bool} {r : Nat → Int}
theorem ldF_all (h : ∀ i < N.m, fz i = true) (l : Nat) : ldF N fz r l = sI (fun j => if N.on l j then r j else 0) N.m := by
  unfold ldF
  refine sI_congr fun i hi => ?_
  rw [h i hi, Bool.true_and]
theorem lft_zero (l : Nat) : lft N r l 0 = N.C l := by unfold lft; simp [sI]
theorem lft_succ (l i : Nat) : lft N r l (i + 1) = lft N r l i - (if N.on l i then r i else 0) := by
  unfold lft
  simp only [sI]
  omega
theorem lft_ge (hF : Fill N V U fz r) (hf : ∀ i < N.m, fz i = true) {l : Nat} (hl : l < N.L) {i : Nat} (hi : i ≤ N.m) : 0 ≤ lft N r l i := by
  have h1 := hF.cap l hl
  rw [ldF_all hf] at h1
  have h2 : sI (fun j => if N.on l j then r j else 0) i ≤ sI (fun j => if N.on l j then r j else 0) N.m := sI_mono (fun j hj => by
    split
    · exact (hF.rt j hj (hf j hj)).1
    · exact Int.le_refl _) hi
  unfold lft
  omega
/-- A flow's rate is there when its turn comes. -/
theorem lft_room (hF : Fill N V U fz r) (hf : ∀ i < N.m, fz i = true) {l : Nat} (hl : l < N.L) {i : Nat} (hi : i < N.m) (ho : N.on l i = true) : r i ≤ lft N r l i := by
  have h := lft_ge hF hf hl (i := i + 1) (by omega)
  rw [lft_succ, if_pos ho] at h
  omega
theorem lft_le (hF : Fill N V U fz r) (hf : ∀ i < N.m, fz i = true) (l : Nat) {i : Nat} (hi : i ≤ N.m) : lft N r l i ≤ N.C l := by
  have h : 0 ≤ sI (fun j => if N.on l j then r j else 0) i := sI_nonneg fun j hj => by
    split
    · exact (hF.rt j (by omega) (hf j (by omega))).1
    · exact Int.le_refl _
  unfold lft
  omega
/-- A flow that wants more has a link with nothing left. -/
theorem lft_full (hF : Fill N V U fz r) (hf : ∀ i < N.m, fz i = true) {i : Nat} (hi : i < N.m) (hb : N.bd i = false) : ∃ l < N.L, N.on l i = true ∧ lft N r l N.m = 0 := by
  obtain ⟨l, hl, ho, he, _⟩ := hF.full i hi (hf i hi) hb
  refine ⟨l, hl, ho, ?_⟩
  rw [ldF_all hf] at he
  unfold lft
  omega
/-- The rates on one link, in the flows' order, sum up to at most its capacity. -/
theorem link_sum (hF : Fill N V U fz r) (hf : ∀ i < N.m, fz i = true) {l : Nat} (hl : l < N.L) : sI (fun j => if N.on l j then r j else 0) N.m ≤ N.C l := by
  have h := hF.cap l hl
  rwa [ldF_all hf] at h
end
/-- The rates of the flows of a link: a list of units whose sum is that of the whole. -/
def pick (on : Nat → Bool) (r : Nat → Int) : Nat → List Int
  | 0 => []
  | m + 1 => if on m then pick on r m ++ [r m] else pick on r m
theorem sI_list (l : List Int) (x : Int) : sI (fun i => (l ++ [x]).getD i 0) (l ++ [x]).length = sI (fun i => l.getD i 0) l.length + x := by
  rw [List.length_append, List.length_singleton]
  simp only [sI]
  congr 1
  · refine sI_congr fun i hi => ?_
    rw [List.getD_eq_getElem?_getD, List.getD_eq_getElem?_getD, List.getElem?_append_left hi]
  · rw [List.getD_eq_getElem?_getD, List.getElem?_append_right (Nat.le_refl _)]
    simp
theorem pick_sum (on : Nat → Bool) (r : Nat → Int) : ∀ m, sI (fun i => (pick on r m).getD i 0) (pick on r m).length = sI (fun j => if on j then r j else 0) m
  | 0 => rfl
  | m + 1 => by
    unfold pick
    cases h : on m with
    | true => rw [if_pos rfl, sI_list, pick_sum on r m]; simp only [sI, h, if_true]
    | false => rw [if_neg (by simp), pick_sum on r m]; simp [sI, h]
end Go.Proofs.Ytbdaehcngmhhcaa
namespace Go.Proofs.Ytbdaehcngmhhcaa
open Go.RowKit
set_option linter.unusedVariables false

theorem Rts.sN {rs : List Rq} {k : Nat → Int} (h : Rts rs k) : sN (kN k) rs.length ≤ uU := by
  have h1 := h.sum
  have h2 : ∀ m, m ≤ rs.length → ((Go.Proofs.Ytbdaehcngmhhcaa.sN (kN k) m : Nat) : Int) = sI k m := by
    intro m
    induction m with
    | zero => intro _; rfl
    | succ m ih =>
      intro hm
      have h3 := (h.r m _ (List.getElem?_eq_getElem (by omega))).2.1
      have h4 := ih (by omega)
      simp only [Go.Proofs.Ytbdaehcngmhhcaa.sN, sI]
      unfold kN at *
      omega
  have h5 := h2 rs.length (Nat.le_refl _)
  omega
/-- The rates of the flows on a link, in order. -/
def pickR (on : Nat → Bool) (R : Nat → Rq) : Nat → List Rq
  | 0 => []
  | m + 1 => if on m then pickR on R m ++ [R m] else pickR on R m
theorem pickR_len (on : Nat → Bool) (R : Nat → Rq) (r : Nat → Int) : ∀ m, (pickR on R m).length = (pick on r m).length
  | 0 => rfl
  | m + 1 => by
    unfold pickR pick
    cases on m with
    | true => simp [pickR_len on R r m]
    | false => simpa using pickR_len on R r m
theorem pickR_le (on : Nat → Bool) (R : Nat → Rq) : ∀ m, (pickR on R m).length ≤ m
  | 0 => Nat.le_refl _
  | m + 1 => by
    have := pickR_le on R m
    unfold pickR
    split <;> simp <;> omega
theorem pickR_get {on : Nat → Bool} {R : Nat → Rq} {r : Nat → Int} {U : Nat} {B : Int} : ∀ m, (∀ i < m, on i = true → Rp1 U (R i) (r i) ∧ 0 ≤ r i ∧ r i ≤ B) → ∀ (j : Nat) x, (pickR on R m)[j]? = some x → Rp1 U x ((pick on r m).getD j 0) ∧ 0 ≤ (pick on r m).getD j 0 ∧ (pick on r m).getD j 0 ≤ B
  | 0, _, j, x, h => by simp [pickR] at h
  | m + 1, hr, j, x, h => by
    have ih := pickR_get m (fun i hi ho => hr i (by omega) ho)
    have hl := pickR_len on R r m
    unfold pickR at h
    unfold pick
    cases ho : on m with
    | false =>
      rw [ho] at h
      exact ih j x (by simpa using h)
    | true =>
      rw [ho, if_pos rfl] at h
      rw [if_pos rfl]
      by_cases hj : j < (pickR on R m).length
      · rw [List.getElem?_append_left hj] at h
        have := ih j x h
        rw [List.getD_eq_getElem?_getD, List.getElem?_append_left (by omega), ← List.getD_eq_getElem?_getD]
        exact this
      · have hj2 : j = (pickR on R m).length := by
          have := get_lt h
          rw [List.length_append, List.length_singleton] at this
          omega
        subst hj2
        rw [List.getElem?_append_right (Nat.le_refl _), Nat.sub_self] at h
        simp at h
        subst h
        rw [List.getD_eq_getElem?_getD, hl, List.getElem?_append_right (Nat.le_refl _), Nat.sub_self]
        exact hr m (by omega) ho
theorem pick_rts {on : Nat → Bool} {R : Nat → Rq} {r : Nat → Int} {m : Nat} (hr : ∀ i < m, on i = true → Rp1 uU (R i) (r i) ∧ 0 ≤ r i ∧ r i ≤ uU) (hs : sI (fun j => if on j then r j else 0) m ≤ uU) :
    Rts (pickR on R m) (fun i => (pick on r m).getD i 0) := by
  refine ⟨fun i x h => pickR_get m hr i x h, ?_⟩
  rw [pickR_len on R r m, pick_sum]
  exact hs
end Go.Proofs.Ytbdaehcngmhhcaa
