/-
  switchbox: the drops of a Step, in closed form. Plain Lean.
-/
import Derived.Test.YtkooihniieepcaaSwK
namespace Go.Proofs.Ytkooihniieepcaa
open Go.RowKit
set_option linter.unusedVariables false

section
variable {p c n K : Nat} {s : SS} {d : Nat → Nat → Nat}
theorem itr_q (p c : Nat) (s : SS) : ∀ n, (itr (dOne p c) n s).M.q = upd2 s.M.q p c ((s.M.q p c).drop n)
  | 0 => by
    show s.M.q = _
    funext i j
    by_cases h : i = p ∧ j = c
    · rw [h.1, h.2, upd2_same]; rfl
    · rw [upd2_ne _ _ h]
  | n + 1 => by
    have ih := itr_q p c s n
    show upd2 (itr (dOne p c) n s).M.q p c ((itr (dOne p c) n s).M.q p c).tail = _
    rw [ih, upd2_same, List.tail_drop]
    funext i j
    by_cases h : i = p ∧ j = c
    · rw [h.1, h.2, upd2_same, upd2_same]
    · rw [upd2_ne _ _ h, upd2_ne _ _ h, upd2_ne _ _ h]
theorem itr_tk (p c : Nat) (s : SS) : ∀ n, (itr (dOne p c) n s).M.tk = s.M.tk ∧ (itr (dOne p c) n s).M.ptr = s.M.ptr ∧ (itr (dOne p c) n s).M.g = s.M.g ∧ (itr (dOne p c) n s).M.a = s.M.a
  | 0 => ⟨rfl, rfl, rfl, rfl⟩
  | n + 1 => itr_tk p c s n
theorem itr_len (p c : Nat) (s : SS) : ∀ n, (itr (dOne p c) n s).mv.length = s.mv.length + n ∧ (itr (dOne p c) n s).fr.length = s.fr.length + n
  | 0 => ⟨rfl, rfl⟩
  | n + 1 => by
    obtain ⟨h1, h2⟩ := itr_len p c s n
    refine ⟨?_, ?_⟩
    · show ((itr (dOne p c) n s).mv ++ [_]).length = _
      rw [List.length_append, h1]; rfl
    · show ((itr (dOne p c) n s).fr ++ [_]).length = _
      rw [List.length_append, h2]; rfl
theorem dCls_q (d : Nat → Nat → Nat) (p : Nat) (s : SS) : ∀ n i j, (dCls d p n s).M.q i j = if i = p ∧ j < n then (s.M.q i j).drop (d i j) else s.M.q i j
  | 0, i, j => by rw [if_neg (by omega)]; rfl
  | n + 1, i, j => by
    have ih := dCls_q d p s n
    rw [dCls_succ, itr_q]
    by_cases h : i = p ∧ j = n
    · rw [h.1, h.2, upd2_same, if_pos ⟨rfl, by omega⟩, ih, if_neg (by omega)]
    · rw [upd2_ne _ _ h, ih]
      by_cases h2 : i = p ∧ j < n
      · rw [if_pos h2, if_pos ⟨h2.1, by omega⟩]
      · rw [if_neg h2, if_neg (by omega)]
theorem dCls_tk (d : Nat → Nat → Nat) (p : Nat) (s : SS) : ∀ n, (dCls d p n s).M.tk = s.M.tk ∧ (dCls d p n s).M.ptr = s.M.ptr ∧ (dCls d p n s).M.g = s.M.g ∧ (dCls d p n s).M.a = s.M.a
  | 0 => ⟨rfl, rfl, rfl, rfl⟩
  | n + 1 => by
    rw [dCls_succ]
    obtain ⟨h1, h2, h3, h4⟩ := itr_tk p n (dCls d p n s) (d p n)
    obtain ⟨g1, g2, g3, g4⟩ := dCls_tk d p s n
    exact ⟨h1.trans g1, h2.trans g2, h3.trans g3, h4.trans g4⟩
theorem dCls_len (d : Nat → Nat → Nat) (p : Nat) (s : SS) : ∀ n, (∀ c < n, d p c ≤ 64) → (dCls d p n s).mv.length ≤ s.mv.length + 64 * n ∧ (dCls d p n s).fr.length ≤ s.fr.length + 64 * n
  | 0, _ => ⟨Nat.le_refl _, Nat.le_refl _⟩
  | n + 1, hd => by
    rw [dCls_succ]
    obtain ⟨h1, h2⟩ := itr_len p n (dCls d p n s) (d p n)
    obtain ⟨g1, g2⟩ := dCls_len d p s n fun c hc => hd c (by omega)
    have := hd n (by omega)
    omega
theorem dPrt_q (d : Nat → Nat → Nat) (K : Nat) (s : SS) : ∀ n i j, (dPrt d K n s).M.q i j = if i < n ∧ j < K then (s.M.q i j).drop (d i j) else s.M.q i j
  | 0, i, j => by rw [if_neg (by omega)]; rfl
  | n + 1, i, j => by
    have ih := dPrt_q d K s n
    rw [dPrt_succ, dCls_q, ih]
    by_cases h : i = n ∧ j < K
    · rw [if_pos h, if_neg (by omega), if_pos (by omega)]
    · rw [if_neg h]
      by_cases h2 : i < n ∧ j < K
      · rw [if_pos h2, if_pos (by omega)]
      · rw [if_neg h2, if_neg (by omega)]
theorem dPrt_tk (d : Nat → Nat → Nat) (K : Nat) (s : SS) : ∀ n, (dPrt d K n s).M.tk = s.M.tk ∧ (dPrt d K n s).M.ptr = s.M.ptr ∧ (dPrt d K n s).M.g = s.M.g ∧ (dPrt d K n s).M.a = s.M.a
  | 0 => ⟨rfl, rfl, rfl, rfl⟩
  | n + 1 => by
    rw [dPrt_succ]
    obtain ⟨h1, h2, h3, h4⟩ := dCls_tk d n (dPrt d K n s) K
    obtain ⟨g1, g2, g3, g4⟩ := dPrt_tk d K s n
    exact ⟨h1.trans g1, h2.trans g2, h3.trans g3, h4.trans g4⟩
theorem dPrt_len (d : Nat → Nat → Nat) (K : Nat) (hK : K ≤ 8) (s : SS) : ∀ n, (∀ p < n, ∀ c < K, d p c ≤ 64) → (dPrt d K n s).mv.length ≤ s.mv.length + 512 * n ∧ (dPrt d K n s).fr.length ≤ s.fr.length + 512 * n
  | 0, _ => ⟨Nat.le_refl _, Nat.le_refl _⟩
  | n + 1, hd => by
    rw [dPrt_succ]
    obtain ⟨h1, h2⟩ := dCls_len d n (dPrt d K n s) K (hd n (by omega))
    obtain ⟨g1, g2⟩ := dPrt_len d K hK s n fun c hc => hd c (by omega)
    omega
/-- In the midst of the drops there is a frame to drop, and the lists are short. -/
theorem drop_at {P : Nat} (d : Nat → Nat → Nat) {M : Md} (hP : P ≤ 8) (hK : K ≤ 8) (h64 : ∀ p < P, ∀ c < K, (M.q p c).length ≤ 64) (hd : ∀ p < P, ∀ c < K, d p c ≤ (M.q p c).length) (hp : p < P) (hc : c < K) (hn : n < d p c) :
    let s := itr (dOne p c) n (dCls d p c (dPrt d K p ⟨M, [], []⟩))
    (∃ f l, s.M.q p c = f :: l) ∧ s.mv.length ≤ 5000 ∧ s.fr.length ≤ 5000 := by
  intro s
  have hd64 : ∀ p < P, ∀ c < K, d p c ≤ 64 := fun p hp c hc => Nat.le_trans (hd p hp c hc) (h64 p hp c hc)
  obtain ⟨a1, a2⟩ := dPrt_len d K hK ⟨M, [], []⟩ p fun i hi => hd64 i (by omega)
  obtain ⟨b1, b2⟩ := dCls_len d p (dPrt d K p ⟨M, [], []⟩) c fun j hj => hd64 p hp j (by omega)
  obtain ⟨c1, c2⟩ := itr_len p c (dCls d p c (dPrt d K p ⟨M, [], []⟩)) n
  have h1 := hd64 p hp c hc
  simp only [List.length_nil] at a1 a2
  refine ⟨?_, by show (itr (dOne p c) n (dCls d p c (dPrt d K p ⟨M, [], []⟩))).mv.length ≤ _; omega, by show (itr (dOne p c) n (dCls d p c (dPrt d K p ⟨M, [], []⟩))).fr.length ≤ _; omega⟩
  have e : s.M.q p c = (M.q p c).drop n := by
    show (itr (dOne p c) n (dCls d p c (dPrt d K p ⟨M, [], []⟩))).M.q p c = _
    rw [itr_q, upd2_same, dCls_q, if_neg (by omega), dPrt_q, if_neg (by omega)]
  have hl : n < (M.q p c).length := Nat.lt_of_lt_of_le hn (hd p hp c hc)
  rw [e, List.drop_eq_getElem_cons hl]
  exact ⟨_, _, rfl⟩
theorem drN_le (P : Nat) (rt : Nat → Fr → Int) (p : Nat) (l : List Fr) : drN P rt p l ≤ l.length := by
  unfold drN
  exact (List.takeWhile_prefix _).length_le
end
end Go.Proofs.Ytkooihniieepcaa
