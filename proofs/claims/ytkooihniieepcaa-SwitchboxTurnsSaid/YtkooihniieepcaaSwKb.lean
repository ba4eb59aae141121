/-
  switchbox: the sends of a Step, in closed form. Plain Lean.
-/
import Derived.Test.YtkooihniieepcaaSwKa
namespace Go.Proofs.Ytkooihniieepcaa
open Go.RowKit
set_option linter.unusedVariables false

section
variable {K i k c n P : Nat} {s : SS} {o : Nat → Nat → Int} {m : Int}
theorem cls_some {M : Md} (hn : n < K) (hno : ∀ j < n, rdyB M o i k ((M.ptr i + j) % K) = false) (hy : rdyB M o i k ((M.ptr i + n) % K) = true) : clsOf K M o i k = some ((M.ptr i + n) % K) := by
  unfold clsOf
  rw [List.find?_eq_some_iff_append]
  refine ⟨hy, (List.range n).map fun j => (M.ptr i + j) % K, ((List.range K).drop (n + 1)).map fun j => (M.ptr i + j) % K, ?_, fun a ha => ?_⟩
  · have e : List.range K = List.range n ++ n :: (List.range K).drop (n + 1) := by
      have h1 := (List.take_append_drop n (List.range K)).symm
      rw [List.drop_eq_getElem_cons (by simpa using hn)] at h1
      rw [List.take_range, Nat.min_eq_left (by omega)] at h1
      rw [List.getElem_range] at h1
      exact h1
    conv => lhs; rw [e]
    rw [List.map_append, List.map_cons]
  · obtain ⟨j, hj, rfl⟩ := List.mem_map.1 ha
    rw [hno j (List.mem_range.1 hj)]
    rfl
theorem cls_none {M : Md} (hno : ∀ j < K, rdyB M o i k ((M.ptr i + j) % K) = false) : clsOf K M o i k = none := by
  unfold clsOf
  rw [List.find?_eq_none]
  intro a ha
  obtain ⟨j, hj, rfl⟩ := List.mem_map.1 ha
  rw [hno j (List.mem_range.1 hj)]
  simp
theorem cls_lt {M : Md} (h : clsOf K M o i k = some c) : c < K ∧ rdyB M o i k c = true := by
  unfold clsOf at h
  have h1 := List.find?_some h
  have h2 := List.mem_of_find?_eq_some h
  obtain ⟨j, hj, rfl⟩ := List.mem_map.1 h2
  exact ⟨Nat.mod_lt _ (by have := List.mem_range.1 hj; omega), h1⟩
theorem sIn_neg (h : m < 0) : sIn K o m i s = s := by unfold sIn; rw [if_pos h]
theorem sIn_none (hm : ¬ m < 0) (h : clsOf K s.M o i m.toNat = none) : sIn K o m i s = s := by unfold sIn; rw [if_neg hm, h]
theorem sIn_some (hm : ¬ m < 0) (h : clsOf K s.M o i m.toNat = some c) : sIn K o m i s = sOne K i m.toNat c s := by unfold sIn; rw [if_neg hm, h]
theorem sIn_cases (K : Nat) (o : Nat → Nat → Int) (m : Int) (i : Nat) (s : SS) : sIn K o m i s = s ∨ ∃ c, 0 ≤ m ∧ clsOf K s.M o i m.toNat = some c ∧ sIn K o m i s = sOne K i m.toNat c s := by
  by_cases hm : m < 0
  · exact .inl (sIn_neg hm)
  · cases h : clsOf K s.M o i m.toNat with
    | none => exact .inl (sIn_none hm h)
    | some c => exact .inr ⟨c, by omega, rfl, sIn_some hm h⟩
theorem sIn_other {i' : Nat} (h : i' ≠ i) (c : Nat) : (sIn K o m i s).M.q i' c = s.M.q i' c ∧ (sIn K o m i s).M.ptr i' = s.M.ptr i' := by
  rcases sIn_cases K o m i s with e | ⟨c', _, _, e⟩
  · rw [e]; exact ⟨rfl, rfl⟩
  · rw [e]
    exact ⟨upd2_ne _ _ (fun x => h x.1), Bar.upd_ne _ _ h⟩
theorem sIn_len : (sIn K o m i s).mv.length ≤ s.mv.length + 1 ∧ (sIn K o m i s).fr.length ≤ s.fr.length + 1 := by
  rcases sIn_cases K o m i s with e | ⟨c', _, _, e⟩
  · rw [e]; omega
  · rw [e]
    show (s.mv ++ [_]).length ≤ _ ∧ (s.fr ++ [_]).length ≤ _
    simp
theorem sAll_later (K : Nat) (o : Nat → Nat → Int) (m : Nat → Int) (s : SS) : ∀ n i, n ≤ i → ∀ c, (sAll K o m n s).M.q i c = s.M.q i c ∧ (sAll K o m n s).M.ptr i = s.M.ptr i
  | 0, i, _, c => ⟨rfl, rfl⟩
  | n + 1, i, h, c => by
    rw [sAll_succ]
    obtain ⟨h1, h2⟩ := sAll_later K o m s n i (by omega) c
    obtain ⟨g1, g2⟩ := sIn_other (K := K) (o := o) (m := m n) (s := sAll K o m n s) (show i ≠ n by omega) c
    exact ⟨g1.trans h1, g2.trans h2⟩
theorem sAll_len (K : Nat) (o : Nat → Nat → Int) (m : Nat → Int) (s : SS) : ∀ n, (sAll K o m n s).mv.length ≤ s.mv.length + n ∧ (sAll K o m n s).fr.length ≤ s.fr.length + n
  | 0 => ⟨Nat.le_refl _, Nat.le_refl _⟩
  | n + 1 => by
    rw [sAll_succ]
    obtain ⟨h1, h2⟩ := sAll_len K o m s n
    obtain ⟨g1, g2⟩ := sIn_len (K := K) (o := o) (m := m n) (i := n) (s := sAll K o m n s)
    omega
theorem drop_drN (P : Nat) (rt : Nat → Fr → Int) (p : Nat) : ∀ l : List Fr, l.drop (drN P rt p l) = l.dropWhile (noRt P rt p)
  | [] => rfl
  | f :: l => by
    unfold drN
    rw [List.takeWhile_cons, List.dropWhile_cons]
    split
    · exact drop_drN P rt p l
    · rfl
theorem ouN_head {P : Nat} {rt : Nat → Fr → Int} {p : Nat} {l : List Fr} (h : 0 ≤ ouN P rt p l) : ∃ f r, l.drop (drN P rt p l) = f :: r ∧ rt p f = ouN P rt p l ∧ noRt P rt p f = false := by
  rw [drop_drN]
  unfold ouN at *
  cases e : l.dropWhile (noRt P rt p) with
  | nil =>
    rw [e] at h
    have h : (0 : Int) ≤ -1 := h
    omega
  | cons f r =>
    refine ⟨f, r, rfl, rfl, ?_⟩
    have := List.head?_dropWhile_not (noRt P rt p) l
    rw [e] at this
    simpa using this
/-- Who is to send has a frame. -/
theorem send_at {P K : Nat} {rt : Nat → Fr → Int} {M : Md} {g a : Nat → Nat} {m : Nat → Int} (hP : P ≤ 8) (hK : K ≤ 8) (h64 : ∀ p < P, ∀ c < K, (M.q p c).length ≤ 64) (s1 s : SS)
    (h1 : s1 = dPrt (fun p c => drN P rt p (M.q p c)) K P ⟨M, [], []⟩) (hi : i < P)
    (hs : s = sAll K (fun p c => ouN P rt p (M.q p c)) m i ⟨{ s1.M with g := g, a := a }, s1.mv, s1.fr⟩) :
    (∀ c < K, ∀ k : Nat, rdyB s.M (fun p c => ouN P rt p (M.q p c)) i k c = true → ∃ f r, s.M.q i c = f :: r) ∧ s.mv.length ≤ 5000 ∧ s.fr.length ≤ 5000 := by
  obtain ⟨a1, a2⟩ := dPrt_len (fun p c => drN P rt p (M.q p c)) K hK ⟨M, [], []⟩ P fun p hp c hc => Nat.le_trans (drN_le _ _ _ _) (h64 p hp c hc)
  obtain ⟨b1, b2⟩ := sAll_len K (fun p c => ouN P rt p (M.q p c)) m ⟨{ s1.M with g := g, a := a }, s1.mv, s1.fr⟩ i
  simp only [← h1, List.length_nil] at a1 a2
  simp only [← hs] at b1 b2
  refine ⟨fun c hc k hr => ?_, by omega, by omega⟩
  have e : s.M.q i c = (M.q i c).drop (drN P rt i (M.q i c)) := by
    rw [hs, (sAll_later K _ m _ i i (Nat.le_refl _) c).1]
    show s1.M.q i c = _
    rw [h1, dPrt_q, if_pos ⟨hi, hc⟩]
  have h0 : ouN P rt i (M.q i c) = (k : Int) := by
    unfold rdyB at hr
    rw [Bool.and_eq_true] at hr
    exact of_decide_eq_true hr.1
  obtain ⟨f, r, h2, _⟩ := ouN_head (show 0 ≤ ouN P rt i (M.q i c) by omega)
  exact ⟨f, r, e.trans h2⟩
end
end Go.Proofs.Ytkooihniieepcaa
