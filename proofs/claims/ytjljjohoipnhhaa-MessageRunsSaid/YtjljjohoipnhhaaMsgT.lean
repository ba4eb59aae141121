/-
  Plain laws: how the states of messages go on.
-/
import Derived.Test.YtjljjohoipnhhaaBoxM
namespace Go.Proofs.Ytjljjohoipnhhaa
open Go.RowKit
set_option linter.unusedVariables false

/-- At most the first open message has begun. -/
def oneS : List Msg → Prop
  | [] => True
  | m :: l => if m.st ≤ 2 then ∀ x ∈ l, x.st ≠ 2 else oneS l
theorem oneS_none : ∀ {l : List Msg}, (∀ x ∈ l, x.st ≠ 2) → oneS l
  | [], _ => trivial
  | m :: l, h => by
    unfold oneS
    split
    · exact fun x hx => h x (by simp [hx])
    · exact oneS_none fun x hx => h x (by simp [hx])
theorem oneS_append : ∀ {l : List Msg} {m : Msg}, oneS l → m.st = 1 → oneS (l ++ [m])
  | [], m, _, h => by
    show oneS [m]
    unfold oneS
    split
    · intro x hx; cases hx
    · trivial
  | y :: l, m, hl, h => by
    rw [List.cons_append]
    unfold oneS at hl ⊢
    split
    · rename_i hy
      rw [if_pos hy] at hl
      intro x hx
      rcases List.mem_append.1 hx with hx | hx
      · exact hl x hx
      · obtain rfl := List.mem_singleton.1 hx
        omega
    · rename_i hy
      rw [if_neg hy] at hl
      exact oneS_append hl h
theorem dropM_no2 (p : Int → Nat → Bool) (k : Nat) (hk : 2 < k) : ∀ (i : Nat) {l : List Msg}, (∀ x ∈ l, x.st ≠ 2) → ∀ x ∈ dropM p k i l, x.st ≠ 2
  | _, [], _, x, hx => by cases hx
  | i, m :: l, h, x, hx => by
    simp only [dropM] at hx
    rcases List.mem_cons.1 hx with rfl | hx
    · unfold Msg.dropped
      split
      · show k ≠ 2; omega
      · exact h m (by simp)
    · exact dropM_no2 p k hk (i + 1) (fun y hy => h y (by simp [hy])) x hx
theorem dropM_one (p : Int → Nat → Bool) (k : Nat) (hk : 2 < k) : ∀ (i : Nat) {l : List Msg}, oneS l → oneS (dropM p k i l)
  | _, [], _ => trivial
  | i, m :: l, h => by
    simp only [dropM]
    unfold oneS at h ⊢
    by_cases hm : m.st ≤ 2
    · rw [if_pos hm] at h
      have h2 := dropM_no2 p k hk (i + 1) h
      split
      · exact h2
      · exact oneS_none h2
    · rw [if_neg hm] at h
      have e : (m.dropped p k i).st = m.st := by unfold Msg.dropped; rw [if_neg (by omega)]
      rw [if_neg (by rw [e]; exact hm)]
      exact dropM_one p k hk (i + 1) h
theorem rest_pos {m : Msg} (h : MsgOk m) (hm : m.st ≤ 2) (i : Nat) : 1 ≤ (m.rest i).length := by
  rw [rest_len]; have := h.s hm; omega
theorem sendL_one : ∀ (i : Nat) {l : List Msg} (b : Nat), (∀ m ∈ l, MsgOk m) → oneS l → oneS (sendL i l b).1
  | _, [], _, _, _ => trivial
  | i, m :: l, b, ok, h => by
    rw [sendL_cons]
    unfold oneS at h
    by_cases hm : m.st ≤ 2
    · rw [if_pos hm] at h
      rw [if_pos hm]
      have hp := rest_pos (ok m (by simp)) hm i
      by_cases hb : b < (m.rest i).length
      · have e : b - min (m.rest i).length b = 0 := by omega
        rw [e, sendL_zero]
        show oneS (m.take i b :: l)
        unfold oneS
        split
        · exact h
        · exact oneS_none h
      · have ih := sendL_one (i + 1) (b - min (m.rest i).length b) (fun x hx => ok x (by simp [hx])) (oneS_none h)
        have et : (m.take i b).st = 3 := by unfold Msg.take; rw [if_neg (by omega), if_pos (by omega)]
        show oneS (m.take i b :: (sendL (i + 1) l (b - min (m.rest i).length b)).1)
        unfold oneS
        rw [if_neg (by omega)]
        exact ih
    · rw [if_neg hm] at h
      rw [if_neg hm]
      show oneS (m :: (sendL (i + 1) l b).1)
      unfold oneS
      rw [if_neg hm]
      exact sendL_one (i + 1) b (fun x hx => ok x (by simp [hx])) h
theorem sendL_ok : ∀ (i : Nat) {l : List Msg} (b : Nat), (∀ m ∈ l, MsgOk m) → ∀ m ∈ (sendL i l b).1, MsgOk m
  | _, [], _, _, m, hm => by cases hm
  | i, m :: l, b, ok, x, hx => by
    rw [sendL_cons] at hx
    split at hx
    · rename_i hm
      rcases List.mem_cons.1 hx with rfl | hx
      · exact MsgOk.take (ok m (by simp)) hm i b
      · exact sendL_ok (i + 1) _ (fun y hy => ok y (by simp [hy])) x hx
    · rcases List.mem_cons.1 hx with rfl | hx
      · exact ok _ (by simp)
      · exact sendL_ok (i + 1) _ (fun y hy => ok y (by simp [hy])) x hx

/-- How a state may go on. -/
def tr (x y : Nat) : Prop := x ≤ y ∧ (3 ≤ x → y = x) ∧ (x = 2 → y ≤ 3)
theorem tr_refl (x : Nat) : tr x x := ⟨Nat.le_refl _, fun _ => rfl, fun h => by omega⟩
theorem tr_trans {x y z : Nat} (h : tr x y) (k : tr y z) : tr x z := by
  obtain ⟨h1, h2, h3⟩ := h
  obtain ⟨k1, k2, k3⟩ := k
  refine ⟨by omega, fun e => ?_, fun e => ?_⟩
  · have := h2 e; have := k2 (by omega); omega
  · have := h3 e
    by_cases e2 : y = 2
    · exact k3 e2
    · have := k2 (by omega); omega
def Tr (ms ns : List Msg) : Prop := ms.length ≤ ns.length ∧ ∀ (i : Nat) (x y : Msg), ms[i]? = some x → ns[i]? = some y → tr x.st y.st
theorem Tr.refl (ms : List Msg) : Tr ms ms := ⟨Nat.le_refl _, fun i x y h1 h2 => by rw [h1] at h2; cases h2; exact tr_refl _⟩
theorem Tr.trans {a b c : List Msg} (h : Tr a b) (k : Tr b c) : Tr a c := by
  refine ⟨Nat.le_trans h.1 k.1, fun i x y h1 h2 => ?_⟩
  have hi := get_lt h1
  have hb : b[i]? = some (b[i]'(by have := h.1; omega)) := List.getElem?_eq_getElem _
  exact tr_trans (h.2 i _ _ h1 hb) (k.2 i _ _ hb h2)
theorem Tr.app (ms ns : List Msg) : Tr ms (ms ++ ns) := by
  refine ⟨by simp, fun i x y h1 h2 => ?_⟩
  rw [List.getElem?_append_left (get_lt h1), h1] at h2
  cases h2; exact tr_refl _
theorem Tr.cons {m n : Msg} {a b : List Msg} (h : tr m.st n.st) (k : Tr a b) : Tr (m :: a) (n :: b) := by
  refine ⟨by simp only [List.length_cons]; have := k.1; omega, fun i x y h1 h2 => ?_⟩
  cases i with
  | zero => simp at h1 h2; subst h1 h2; exact h
  | succ i => simp at h1 h2; exact k.2 i x y h1 h2
theorem dropM_tr (p : Int → Nat → Bool) (k : Nat) (hk : 2 < k) : ∀ (i : Nat) (l : List Msg), Tr l (dropM p k i l)
  | _, [] => Tr.refl _
  | i, m :: l => by
    refine Tr.cons ?_ (dropM_tr p k hk (i + 1) l)
    unfold Msg.dropped
    split
    · rename_i h
      exact ⟨by show m.st ≤ k; omega, fun e => by omega, fun e => by omega⟩
    · exact tr_refl _
theorem take_tr {m : Msg} (i b : Nat) (hm : m.st ≤ 2) : tr m.st (m.take i b).st := by
  unfold Msg.take
  split
  · exact tr_refl _
  · split
    · exact ⟨by show m.st ≤ 3; omega, fun e => by omega, fun e => by show 3 ≤ 3; omega⟩
    · exact ⟨hm, fun e => by omega, fun e => by show 2 ≤ 3; omega⟩
theorem sendL_tr : ∀ (i : Nat) (l : List Msg) (b : Nat), Tr l (sendL i l b).1
  | _, [], _ => Tr.refl _
  | i, m :: l, b => by
    rw [sendL_cons]
    split
    · rename_i hm
      exact Tr.cons (take_tr i b hm) (sendL_tr (i + 1) l _)
    · exact Tr.cons (tr_refl _) (sendL_tr (i + 1) l _)
/-- Open messages do not grow in number. -/
theorem openN_cons (m : Msg) (l : List Msg) : openN (m :: l) = openN l + (if m.st ≤ 2 then 1 else 0) := by
  unfold openN
  by_cases h : m.st ≤ 2 <;> simp [h]
theorem openN_tr : ∀ {a b : List Msg}, a.length = b.length → Tr a b → openN b ≤ openN a
  | [], [], _, _ => Nat.le_refl _
  | [], y :: b, h, _ => by simp at h
  | x :: a, [], h, _ => by simp at h
  | x :: a, y :: b, h, k => by
    have hl : a.length = b.length := by simpa using h
    have k' : Tr a b := ⟨by omega, fun i u v h1 h2 => k.2 (i + 1) u v (by simpa using h1) (by simpa using h2)⟩
    have ih := openN_tr hl k'
    have h0 := (k.2 0 x y rfl rfl).1
    rw [openN_cons, openN_cons]
    by_cases h1 : y.st ≤ 2
    · rw [if_pos h1, if_pos (by omega)]; omega
    · rw [if_neg h1]; omega

/-- What holds of a box between the operations. -/
structure MInv (room : Int) (ms : List Msg) : Prop where
  ok : ∀ m ∈ ms, MsgOk m
  one : oneS ms
  op : (openN ms : Int) ≤ room
theorem MInv.nil (room : Int) (h : 0 ≤ room) : MInv room [] := ⟨(fun m hm => by cases hm), trivial, by simpa [openN] using h⟩
theorem MInv.put {room : Int} {ms : List Msg} (h : MInv room ms) (data : List Int) (dl : Int) : MInv room (putM ms room data dl) ∧ Tr ms (putM ms room data dl) := by
  unfold putM
  by_cases hb : putBad data dl = true
  · rw [if_pos hb]; exact ⟨h, Tr.refl _⟩
  · rw [if_neg hb]
    have hb' : 1 ≤ data.length ∧ data.length ≤ 1000 ∧ -1 ≤ dl := by
      unfold putBad at hb
      simp only [Bool.or_eq_true, decide_eq_true_eq] at hb
      omega
    by_cases hr : room ≤ (openN ms : Int)
    · rw [if_pos hr]; exact ⟨h, Tr.refl _⟩
    · rw [if_neg hr]
      refine ⟨⟨?_, oneS_append h.one rfl, ?_⟩, Tr.app _ _⟩
      · intro m hm
        rcases List.mem_append.1 hm with hm | hm
        · exact h.ok m hm
        · obtain rfl := List.mem_singleton.1 hm
          exact ⟨hb'.1, hb'.2.1, hb'.2.2, Nat.le_refl _, by show 1 ≤ 5; omega, fun _ => rfl, fun _ => by show 0 < data.length + 5; omega⟩
      · rw [openN_append]
        show ((openN ms + 1 : Nat) : Int) ≤ room
        omega
theorem MInv.drop {room : Int} {ms : List Msg} (h : MInv room ms) (p : Int → Nat → Bool) (k : Nat) (hk : 2 < k) (hk5 : k ≤ 5) : MInv room (dropM p k 0 ms) ∧ Tr ms (dropM p k 0 ms) := by
  have ht := dropM_tr p k hk 0 ms
  refine ⟨⟨dropM_ok p k hk hk5 h.ok, dropM_one p k hk 0 h.one, ?_⟩, ht⟩
  have := openN_tr (dropM_len p k 0 ms).symm ht
  have := h.op
  omega
theorem MInv.cancel {room : Int} {ms : List Msg} (h : MInv room ms) (n : Int) : MInv room (cancelM ms n) ∧ Tr ms (cancelM ms n) := by
  unfold cancelM
  split
  · exact h.drop _ 4 (by decide) (by decide)
  · exact ⟨h, Tr.refl _⟩
theorem MInv.send {room : Int} {ms : List Msg} (h : MInv room ms) (b : Nat) : MInv room (sendL 0 ms b).1 ∧ Tr ms (sendL 0 ms b).1 := by
  have ht := sendL_tr 0 ms b
  refine ⟨⟨sendL_ok 0 b h.ok, sendL_one 0 b h.ok h.one, ?_⟩, ht⟩
  have := openN_tr (sendL_len 0 ms b).symm ht
  have := h.op
  omega
theorem MInv.next {room : Int} {ms : List Msg} (h : MInv room ms) (tick most : Int) : MInv room (nextM ms tick most) ∧ Tr ms (nextM ms tick most) := by
  obtain ⟨h1, h2⟩ := h.drop (pNext tick) 5 (by decide) (by decide)
  obtain ⟨h3, h4⟩ := h1.send most.toNat
  exact ⟨h3, h2.trans h4⟩
theorem cnt2_le : ∀ {l : List Msg}, oneS l → cnt (l.map Msg.st) 2 ≤ 1
  | [], _ => by simp [cnt]
  | m :: l, h => by
    unfold oneS at h
    have e : cnt ((m :: l).map Msg.st) 2 = cnt (l.map Msg.st) 2 + (if m.st = 2 then 1 else 0) := by
      simp only [cnt, List.map_cons, List.countP_cons, beq_iff_eq]
    rw [e]
    by_cases hm : m.st ≤ 2
    · rw [if_pos hm] at h
      have h0 : cnt (l.map Msg.st) 2 = 0 := by
        unfold cnt
        rw [List.countP_eq_zero]
        intro s hs
        obtain ⟨x, hx, rfl⟩ := List.mem_map.1 hs
        have := h x hx
        simpa using this
      rw [h0]
      split <;> omega
    · rw [if_neg hm] at h
      rw [if_neg (by omega)]
      exact cnt2_le h
theorem cnt_sum : ∀ {l : List Msg}, (∀ m ∈ l, MsgOk m) → cnt (l.map Msg.st) 1 + cnt (l.map Msg.st) 2 = openN l ∧ cnt (l.map Msg.st) 0 = 0 ∧
    cnt (l.map Msg.st) 1 + cnt (l.map Msg.st) 2 + cnt (l.map Msg.st) 3 + cnt (l.map Msg.st) 4 + cnt (l.map Msg.st) 5 = l.length
  | [], _ => by simp [cnt, openN]
  | m :: l, h => by
    obtain ⟨i1, i2, i3⟩ := cnt_sum (l := l) fun x hx => h x (List.mem_cons_of_mem _ hx)
    have hs := h m (by simp)
    have s1 := hs.s1
    have s5 := hs.s5
    have e : ∀ k, cnt ((m :: l).map Msg.st) k = cnt (l.map Msg.st) k + (if m.st = k then 1 else 0) := fun k => by
      simp only [cnt, List.map_cons, List.countP_cons, beq_iff_eq]
    rw [openN_cons, e 0, e 1, e 2, e 3, e 4, e 5, List.length_cons]
    have : m.st = 1 ∨ m.st = 2 ∨ m.st = 3 ∨ m.st = 4 ∨ m.st = 5 := by omega
    rcases this with hm | hm | hm | hm | hm <;> rw [hm] <;> simp <;> omega
end Go.Proofs.Ytjljjohoipnhhaa
