/-
  switchbox: what Step does to a box, plainly.
  switchbox: the drops of a Step, in closed form. Plain Lean.
  switchbox: the sends of a Step, in closed form. Plain Lean.
-/
import Derived.Test.YtkooihniieepcaaSwJ
namespace Go.Proofs.Ytkooihniieepcaa
open Go.RowKit
set_option linter.unusedVariables false

/-- The box's model, the moves and the frames so far. -/
structure SS where
  M : Md
  mv : List Mv
  fr : List Fr
def popM (M : Md) (p c : Nat) : Md := mdQ M p c (M.q p c).tail (freX (M.gv p c))
def itr {α : Type} (f : α → α) : Nat → α → α
  | 0, s => s
  | n + 1, s => f (itr f n s)
def dOne (p c : Nat) (s : SS) : SS := ⟨popM s.M p c, s.mv ++ [⟨p, c, -1⟩], s.fr ++ [(s.M.q p c).headD default]⟩
def dCls (d : Nat → Nat → Nat) (p n : Nat) (s : SS) : SS := (List.range n).foldl (fun s c => itr (dOne p c) (d p c) s) s
def dPrt (d : Nat → Nat → Nat) (K n : Nat) (s : SS) : SS := (List.range n).foldl (fun s p => dCls d p K s) s
theorem dCls_succ (d : Nat → Nat → Nat) (p n : Nat) (s : SS) : dCls d p (n + 1) s = itr (dOne p n) (d p n) (dCls d p n s) := by
  unfold dCls; rw [List.range_succ, List.foldl_append]; rfl
theorem dPrt_succ (d : Nat → Nat → Nat) (K n : Nat) (s : SS) : dPrt d K (n + 1) s = dCls d n K (dPrt d K n s) := by
  unfold dPrt; rw [List.range_succ, List.foldl_append]; rfl
/-- The class that input i sends to output k: the first from its pointer on that is ready. -/
def clsOf (K : Nat) (M : Md) (o : Nat → Nat → Int) (i k : Nat) : Option Nat := ((List.range K).map fun n => (M.ptr i + n) % K).find? (rdyB M o i k)
def takM (M : Md) (k c : Nat) : Md := { M with tk := upd2 M.tk k c (takX (M.tk k c)) }
def ptrM (M : Md) (i x : Nat) : Md := { M with ptr := Bar.upd M.ptr i x }
def sOne (K i k c : Nat) (s : SS) : SS := ⟨ptrM (takM (popM s.M i c) k c) i ((c + 1) % K), s.mv ++ [⟨i, c, k⟩], s.fr ++ [(s.M.q i c).headD default]⟩
/-- Input i, matched with m (-1: with none). -/
def sIn (K : Nat) (o : Nat → Nat → Int) (m : Int) (i : Nat) (s : SS) : SS :=
  if m < 0 then s else match clsOf K s.M o i m.toNat with | some c => sOne K i m.toNat c s | none => s
def sAll (K : Nat) (o : Nat → Nat → Int) (m : Nat → Int) (n : Nat) (s : SS) : SS := (List.range n).foldl (fun s i => sIn K o (m i) i s) s
theorem sAll_succ (K : Nat) (o : Nat → Nat → Int) (m : Nat → Int) (n : Nat) (s : SS) : sAll K o m (n + 1) s = sIn K o (m n) n (sAll K o m n s) := by
  unfold sAll; rw [List.range_succ, List.foldl_append]; rfl
end Go.Proofs.Ytkooihniieepcaa
namespace Go.Proofs.Ytkooihniieepcaa
open Go.RowKit
set_option linter.unusedVariables false

section
variable {p c n K : Nat} {s : SS} {d : Nat → Nat → Nat}
theorem itr_q (p c : Nat) (s : SS) : ∀ n, (itr (dOne p c) n s).M.q = upd2 s.M.q p c ((s.M.q p c).drop n)
  | 0 => by
    show s.M.q = _
    funext i j
    by_cases h : i = p ∧ j = c
    · rw [h.1, h.2, upd2_same]; rfl
    · rw [upd2_ne _ _ h]
  | n + 1 => by
    have ih := itr_q p c s n
    show upd2 (itr (dOne p c) n s).M.q p c ((itr (dOne p c) n s).M.q p c).tail = _
    rw [ih, upd2_same, List.tail_drop]
    funext i j
    by_cases h : i = p ∧ j = c
    · rw [h.1, h.2, upd2_same, upd2_same]
    · rw [upd2_ne _ _ h, upd2_ne _ _ h, upd2_ne _ _ h]
theorem itr_tk (p c : Nat) (s : SS) : ∀ n, (itr (dOne p c) n s).M.tk = s.M.tk ∧ (itr (dOne p c) n s).M.ptr = s.M.ptr ∧ (itr (dOne p c) n s).M.g = s.M.g ∧ (itr (dOne p c) n s).M.a = s.M.a
  | 0 => ⟨rfl, rfl, rfl, rfl⟩
  | n + 1 => itr_tk p c s n
theorem itr_len (p c : Nat) (s : SS) : ∀ n, (itr (dOne p c) n s).mv.length = s.mv.length + n ∧ (itr (dOne p c) n s).fr.length = s.fr.length + n
  | 0 => ⟨rfl, rfl⟩
  | n + 1 => by
    obtain ⟨h1, h2⟩ := itr_len p c s n
    refine ⟨?_, ?_⟩
    · show ((itr (dOne p c) n s).mv ++ [_]).length = _
      rw [List.length_append, h1]; rfl
    · show ((itr (dOne p c) n s).fr ++ [_]).length = _
      rw [List.length_append, h2]; rfl
theorem dCls_q (d : Nat → Nat → Nat) (p : Nat) (s : SS) : ∀ n i j, (dCls d p n s).M.q i j = if i = p ∧ j < n then (s.M.q i j).drop (d i j) else s.M.q i j
  | 0, i, j => by rw [if_neg (by omega)]; rfl
  | n + 1, i, j => by
    have ih := dCls_q d p s n
    rw [dCls_succ, itr_q]
    by_cases h : i = p ∧ j = n
    · rw [h.1, h.2, upd2_same, if_pos ⟨rfl, by omega⟩, ih, if_neg (by omega)]
    · rw [upd2_ne _ _ h, ih]
      by_cases h2 : i = p ∧ j < n
      · rw [if_pos h2, if_pos ⟨h2.1, by omega⟩]
      · rw [if_neg h2, if_neg (by omega)]
theorem dCls_tk (d : Nat → Nat → Nat) (p : Nat) (s : SS) : ∀ n, (dCls d p n s).M.tk = s.M.tk ∧ (dCls d p n s).M.ptr = s.M.ptr ∧ (dCls d p n s).M.g = s.M.g ∧ (dCls d p n s).M.a = s.M.a
  | 0 => ⟨rfl, rfl, rfl, rfl⟩
  | n + 1 => by
    rw [dCls_succ]
    obtain ⟨h1, h2, h3, h4⟩ := itr_tk p n (dCls d p n s) (d p n)
    obtain ⟨g1, g2, g3, g4⟩ := dCls_tk d p s n
    exact ⟨h1.trans g1, h2.trans g2, h3.trans g3, h4.trans g4⟩
theorem dCls_len (d : Nat → Nat → Nat) (p : Nat) (s : SS) : ∀ n, (∀ c < n, d p c ≤ 64) → (dCls d p n s).mv.length ≤ s.mv.length + 64 * n ∧ (dCls d p n s).fr.length ≤ s.fr.length + 64 * n
  | 0, _ => ⟨Nat.le_refl _, Nat.le_refl _⟩
  | n + 1, hd => by
    rw [dCls_succ]
    obtain ⟨h1, h2⟩ := itr_len p n (dCls d p n s) (d p n)
    obtain ⟨g1, g2⟩ := dCls_len d p s n fun c hc => hd c (by omega)
    have := hd n (by omega)
    omega
theorem dPrt_q (d : Nat → Nat → Nat) (K : Nat) (s : SS) : ∀ n i j, (dPrt d K n s).M.q i j = if i < n ∧ j < K then (s.M.q i j).drop (d i j) else s.M.q i j
  | 0, i, j => by rw [if_neg (by omega)]; rfl
  | n + 1, i, j => by
    have ih := dPrt_q d K s n
    rw [dPrt_succ, dCls_q, ih]
    by_cases h : i = n ∧ j < K
    · rw [if_pos h, if_neg (by omega), if_pos (by omega)]
    · rw [if_neg h]
      by_cases h2 : i < n ∧ j < K
      · rw [if_pos h2, if_pos (by omega)]
      · rw [if_neg h2, if_neg (by omega)]
theorem dPrt_tk (d : Nat → Nat → Nat) (K : Nat) (s : SS) : ∀ n, (dPrt d K n s).M.tk = s.M.tk ∧ (dPrt d K n s).M.ptr = s.M.ptr ∧ (dPrt d K n s).M.g = s.M.g ∧ (dPrt d K n s).M.a = s.M.a
  | 0 => ⟨rfl, rfl, rfl, rfl⟩
  | n + 1 => by
    rw [dPrt_succ]
    obtain ⟨h1, h2, h3, h4⟩ := dCls_tk d n (dPrt d K n s) K
    obtain ⟨g1, g2, g3, g4⟩ := dPrt_tk d K s n
    exact ⟨h1.trans g1, h2.trans g2, h3.trans g3, h4.trans g4⟩
theorem dPrt_len (d : Nat → Nat → Nat) (K : Nat) (hK : K ≤ 8) (s : SS) : ∀ n, (∀ p < n, ∀ c < K, d p c ≤ 64) → (dPrt d K n s).mv.length ≤ s.mv.length + 512 * n ∧ (dPrt d K n s).fr.length ≤ s.fr.length + 512 * n
  | 0, _ => ⟨Nat.le_refl _, Nat.le_refl _⟩
  | n + 1, hd => by
    rw [dPrt_succ]
    obtain ⟨h1, h2⟩ := dCls_len d n (dPrt d K n s) K (hd n (by omega))
    obtain ⟨g1, g2⟩ := dPrt_len d K hK s n fun c hc => hd c (by omega)
    omega
/-- In the midst of the drops there is a frame to drop, and the lists are short. -/
theorem drop_at {P : Nat} (d : Nat → Nat → Nat) {M : Md} (hP : P ≤ 8) (hK : K ≤ 8) (h64 : ∀ p < P, ∀ c < K, (M.q p c).length ≤ 64) (hd : ∀ p < P, ∀ c < K, d p c ≤ (M.q p c).length) (hp : p < P) (hc : c < K) (hn : n < d p c) :
    let s := itr (dOne p c) n (dCls d p c (dPrt d K p ⟨M, [], []⟩))
    (∃ f l, s.M.q p c = f :: l) ∧ s.mv.length ≤ 5000 ∧ s.fr.length ≤ 5000 := by
  intro s
  have hd64 : ∀ p < P, ∀ c < K, d p c ≤ 64 := fun p hp c hc => Nat.le_trans (hd p hp c hc) (h64 p hp c hc)
  obtain ⟨a1, a2⟩ := dPrt_len d K hK ⟨M, [], []⟩ p fun i hi => hd64 i (by omega)
  obtain ⟨b1, b2⟩ := dCls_len d p (dPrt d K p ⟨M, [], []⟩) c fun j hj => hd64 p hp j (by omega)
  obtain ⟨c1, c2⟩ := itr_len p c (dCls d p c (dPrt d K p ⟨M, [], []⟩)) n
  have h1 := hd64 p hp c hc
  simp only [List.length_nil] at a1 a2
  refine ⟨?_, by show (itr (dOne p c) n (dCls d p c (dPrt d K p ⟨M, [], []⟩))).mv.length ≤ _; omega, by show (itr (dOne p c) n (dCls d p c (dPrt d K p ⟨M, [], []⟩))).fr.length ≤ _; omega⟩
  have e : s.M.q p c = (M.q p c).drop n := by
    show (itr (dOne p c) n (dCls d p c (dPrt d K p ⟨M, [], []⟩))).M.q p c = _
    rw [itr_q, upd2_same, dCls_q, if_neg (by omega), dPrt_q, if_neg (by omega)]
  have hl : n < (M.q p c).length := Nat.lt_of_lt_of_le hn (hd p hp c hc)
  rw [e, List.drop_eq_getElem_cons hl]
  exact ⟨_, _, rfl⟩
theorem drN_le (P : Nat) (rt : Nat → Fr → Int) (p : Nat) (l : List Fr) : drN P rt p l ≤ l.length := by
  unfold drN
  exact (List.takeWhile_prefix _).length_le
end
end Go.Proofs.Ytkooihniieepcaa
namespace Go.Proofs.Ytkooihniieepcaa
open Go.RowKit
set_option linter.unusedVariables false

section
variable {K i k c n P : Nat} {s : SS} {o : Nat → Nat → Int} {m : Int}
theorem cls_some {M : Md} (hn : n < K) (hno : ∀ j < n, rdyB M o i k ((M.ptr i + j) % K) = false) (hy : rdyB M o i k ((M.ptr i + n) % K) = true) : clsOf K M o i k = some ((M.ptr i + n) % K) := by
  unfold clsOf
  rw [List.find?_eq_some_iff_append]
  refine ⟨hy, (List.range n).map fun j => (M.ptr i + j) % K, ((List.range K).drop (n + 1)).map fun j => (M.ptr i + j) % K, ?_, fun a ha => ?_⟩
  · have e : List.range K = List.range n ++ n :: (List.range K).drop (n + 1) := by
      have h1 := (List.take_append_drop n (List.range K)).symm
      rw [List.drop_eq_getElem_cons (by simpa using hn)] at h1
      rw [List.take_range, Nat.min_eq_left (by omega)] at h1
      rw [List.getElem_range] at h1
      exact h1
    conv => lhs; rw [e]
    rw [List.map_append, List.map_cons]
  · obtain ⟨j, hj, rfl⟩ := List.mem_map.1 ha
    rw [hno j (List.mem_range.1 hj)]
    rfl
theorem cls_none {M : Md} (hno : ∀ j < K, rdyB M o i k ((M.ptr i + j) % K) = false) : clsOf K M o i k = none := by
  unfold clsOf
  rw [List.find?_eq_none]
  intro a ha
  obtain ⟨j, hj, rfl⟩ := List.mem_map.1 ha
  rw [hno j (List.mem_range.1 hj)]
  simp
theorem cls_lt {M : Md} (h : clsOf K M o i k = some c) : c < K ∧ rdyB M o i k c = true := by
  unfold clsOf at h
  have h1 := List.find?_some h
  have h2 := List.mem_of_find?_eq_some h
  obtain ⟨j, hj, rfl⟩ := List.mem_map.1 h2
  exact ⟨Nat.mod_lt _ (by have := List.mem_range.1 hj; omega), h1⟩
theorem sIn_neg (h : m < 0) : sIn K o m i s = s := by unfold sIn; rw [if_pos h]
theorem sIn_none (hm : ¬ m < 0) (h : clsOf K s.M o i m.toNat = none) : sIn K o m i s = s := by unfold sIn; rw [if_neg hm, h]
theorem sIn_some (hm : ¬ m < 0) (h : clsOf K s.M o i m.toNat = some c) : sIn K o m i s = sOne K i m.toNat c s := by unfold sIn; rw [if_neg hm, h]
theorem sIn_cases (K : Nat) (o : Nat → Nat → Int) (m : Int) (i : Nat) (s : SS) : sIn K o m i s = s ∨ ∃ c, 0 ≤ m ∧ clsOf K s.M o i m.toNat = some c ∧ sIn K o m i s = sOne K i m.toNat c s := by
  by_cases hm : m < 0
  · exact .inl (sIn_neg hm)
  · cases h : clsOf K s.M o i m.toNat with
    | none => exact .inl (sIn_none hm h)
    | some c => exact .inr ⟨c, by omega, rfl, sIn_some hm h⟩
theorem sIn_other {i' : Nat} (h : i' ≠ i) (c : Nat) : (sIn K o m i s).M.q i' c = s.M.q i' c ∧ (sIn K o m i s).M.ptr i' = s.M.ptr i' := by
  rcases sIn_cases K o m i s with e | ⟨c', _, _, e⟩
  · rw [e]; exact ⟨rfl, rfl⟩
  · rw [e]
    exact ⟨upd2_ne _ _ (fun x => h x.1), Bar.upd_ne _ _ h⟩
theorem sIn_len : (sIn K o m i s).mv.length ≤ s.mv.length + 1 ∧ (sIn K o m i s).fr.length ≤ s.fr.length + 1 := by
  rcases sIn_cases K o m i s with e | ⟨c', _, _, e⟩
  · rw [e]; omega
  · rw [e]
    show (s.mv ++ [_]).length ≤ _ ∧ (s.fr ++ [_]).length ≤ _
    simp
theorem sAll_later (K : Nat) (o : Nat → Nat → Int) (m : Nat → Int) (s : SS) : ∀ n i, n ≤ i → ∀ c, (sAll K o m n s).M.q i c = s.M.q i c ∧ (sAll K o m n s).M.ptr i = s.M.ptr i
  | 0, i, _, c => ⟨rfl, rfl⟩
  | n + 1, i, h, c => by
    rw [sAll_succ]
    obtain ⟨h1, h2⟩ := sAll_later K o m s n i (by omega) c
    obtain ⟨g1, g2⟩ := sIn_other (K := K) (o := o) (m := m n) (s := sAll K o m n s) (show i ≠ n by omega) c
    exact ⟨g1.trans h1, g2.trans h2⟩
theorem sAll_len (K : Nat) (o : Nat → Nat → Int) (m : Nat → Int) (s : SS) : ∀ n, (sAll K o m n s).mv.length ≤ s.mv.length + n ∧ (sAll K o m n s).fr.length ≤ s.fr.length + n
  | 0 => ⟨Nat.le_refl _, Nat.le_refl _⟩
  | n + 1 => by
    rw [sAll_succ]
    obtain ⟨h1, h2⟩ := sAll_len K o m s n
    obtain ⟨g1, g2⟩ := sIn_len (K := K) (o := o) (m := m n) (i := n) (s := sAll K o m n s)
    omega
theorem drop_drN (P : Nat) (rt : Nat → Fr → Int) (p : Nat) : ∀ l : List Fr, l.drop (drN P rt p l) = l.dropWhile (noRt P rt p)
  | [] => rfl
  | f :: l => by
    unfold drN
    rw [List.takeWhile_cons, List.dropWhile_cons]
    split
    · exact drop_drN P rt p l
    · rfl
theorem ouN_head {P : Nat} {rt : Nat → Fr → Int} {p : Nat} {l : List Fr} (h : 0 ≤ ouN P rt p l) : ∃ f r, l.drop (drN P rt p l) = f :: r ∧ rt p f = ouN P rt p l ∧ noRt P rt p f = false := by
  rw [drop_drN]
  unfold ouN at *
  cases e : l.dropWhile (noRt P rt p) with
  | nil =>
    rw [e] at h
    have h : (0 : Int) ≤ -1 := h
    omega
  | cons f r =>
    refine ⟨f, r, rfl, rfl, ?_⟩
    have := List.head?_dropWhile_not (noRt P rt p) l
    rw [e] at this
    simpa using this
/-- Who is to send has a frame. -/
theorem send_at {P K : Nat} {rt : Nat → Fr → Int} {M : Md} {g a : Nat → Nat} {m : Nat → Int} (hP : P ≤ 8) (hK : K ≤ 8) (h64 : ∀ p < P, ∀ c < K, (M.q p c).length ≤ 64) (s1 s : SS)
    (h1 : s1 = dPrt (fun p c => drN P rt p (M.q p c)) K P ⟨M, [], []⟩) (hi : i < P)
    (hs : s = sAll K (fun p c => ouN P rt p (M.q p c)) m i ⟨{ s1.M with g := g, a := a }, s1.mv, s1.fr⟩) :
    (∀ c < K, ∀ k : Nat, rdyB s.M (fun p c => ouN P rt p (M.q p c)) i k c = true → ∃ f r, s.M.q i c = f :: r) ∧ s.mv.length ≤ 5000 ∧ s.fr.length ≤ 5000 := by
  obtain ⟨a1, a2⟩ := dPrt_len (fun p c => drN P rt p (M.q p c)) K hK ⟨M, [], []⟩ P fun p hp c hc => Nat.le_trans (drN_le _ _ _ _) (h64 p hp c hc)
  obtain ⟨b1, b2⟩ := sAll_len K (fun p c => ouN P rt p (M.q p c)) m ⟨{ s1.M with g := g, a := a }, s1.mv, s1.fr⟩ i
  simp only [← h1, List.length_nil] at a1 a2
  simp only [← hs] at b1 b2
  refine ⟨fun c hc k hr => ?_, by omega, by omega⟩
  have e : s.M.q i c = (M.q i c).drop (drN P rt i (M.q i c)) := by
    rw [hs, (sAll_later K _ m _ i i (Nat.le_refl _) c).1]
    show s1.M.q i c = _
    rw [h1, dPrt_q, if_pos ⟨hi, hc⟩]
  have h0 : ouN P rt i (M.q i c) = (k : Int) := by
    unfold rdyB at hr
    rw [Bool.and_eq_true] at hr
    exact of_decide_eq_true hr.1
  obtain ⟨f, r, h2, _⟩ := ouN_head (show 0 ≤ ouN P rt i (M.q i c) by omega)
  exact ⟨f, r, e.trans h2⟩
end
end Go.Proofs.Ytkooihniieepcaa
