/-
  Plain laws: how the states of messages go on.
  A gate on forms of messages; the reference's Form.
  Plain laws for MessageCuts.
  Plain laws for MessageArrives: the bytes that left a box, and what a gate makes of them.
-/
import Derived.Test.YtkaaoomliepijaaGreatQBoxM
import Derived.Test.YtkaaoomliepijaaGreatQBoxD
import Derived.Test.YtkaaoomliepijaaGreatQGateD
namespace Go.Proofs.YtkaaoomliepijaaGreat
open Go.RowKit
set_option linter.unusedVariables false

/-- At most the first open message has begun. -/
def oneS : List Msg → Prop
  | [] => True
  | m :: l => if m.st ≤ 2 then ∀ x ∈ l, x.st ≠ 2 else oneS l
theorem oneS_none : ∀ {l : List Msg}, (∀ x ∈ l, x.st ≠ 2) → oneS l
  | [], _ => trivial
  | m :: l, h => by
    unfold oneS
    split
    · exact fun x hx => h x (by simp [hx])
    · exact oneS_none fun x hx => h x (by simp [hx])
theorem oneS_append : ∀ {l : List Msg} {m : Msg}, oneS l → m.st = 1 → oneS (l ++ [m])
  | [], m, _, h => by
    show oneS [m]
    unfold oneS
    split
    · intro x hx; cases hx
    · trivial
  | y :: l, m, hl, h => by
    rw [List.cons_append]
    unfold oneS at hl ⊢
    split
    · rename_i hy
      rw [if_pos hy] at hl
      intro x hx
      rcases List.mem_append.1 hx with hx | hx
      · exact hl x hx
      · obtain rfl := List.mem_singleton.1 hx
        omega
    · rename_i hy
      rw [if_neg hy] at hl
      exact oneS_append hl h
theorem dropM_no2 (p : Int → Nat → Bool) (k : Nat) (hk : 2 < k) : ∀ (i : Nat) {l : List Msg}, (∀ x ∈ l, x.st ≠ 2) → ∀ x ∈ dropM p k i l, x.st ≠ 2
  | _, [], _, x, hx => by cases hx
  | i, m :: l, h, x, hx => by
    simp only [dropM] at hx
    rcases List.mem_cons.1 hx with rfl | hx
    · unfold Msg.dropped
      split
      · show k ≠ 2; omega
      · exact h m (by simp)
    · exact dropM_no2 p k hk (i + 1) (fun y hy => h y (by simp [hy])) x hx
theorem dropM_one (p : Int → Nat → Bool) (k : Nat) (hk : 2 < k) : ∀ (i : Nat) {l : List Msg}, oneS l → oneS (dropM p k i l)
  | _, [], _ => trivial
  | i, m :: l, h => by
    simp only [dropM]
    unfold oneS at h ⊢
    by_cases hm : m.st ≤ 2
    · rw [if_pos hm] at h
      have h2 := dropM_no2 p k hk (i + 1) h
      split
      · exact h2
      · exact oneS_none h2
    · rw [if_neg hm] at h
      have e : (m.dropped p k i).st = m.st := by unfold Msg.dropped; rw [if_neg (by omega)]
      rw [if_neg (by rw [e]; exact hm)]
      exact dropM_one p k hk (i + 1) h
theorem rest_pos {m : Msg} (h : MsgOk m) (hm : m.st ≤ 2) (i : Nat) : 1 ≤ (m.rest i).length := by
  rw [rest_len]; have := h.s hm; omega
theorem sendL_one : ∀ (i : Nat) {l : List Msg} (b : Nat), (∀ m ∈ l, MsgOk m) → oneS l → oneS (sendL i l b).1
  | _, [], _, _, _ => trivial
  | i, m :: l, b, ok, h => by
    rw [sendL_cons]
    unfold oneS at h
    by_cases hm : m.st ≤ 2
    · rw [if_pos hm] at h
      rw [if_pos hm]
      have hp := rest_pos (ok m (by simp)) hm i
      by_cases hb : b < (m.rest i).length
      · have e : b - min (m.rest i).length b = 0 := by omega
        rw [e, sendL_zero]
        show oneS (m.take i b :: l)
        unfold oneS
        split
        · exact h
        · exact oneS_none h
      · have ih := sendL_one (i + 1) (b - min (m.rest i).length b) (fun x hx => ok x (by simp [hx])) (oneS_none h)
        have et : (m.take i b).st = 3 := by unfold Msg.take; rw [if_neg (by omega), if_pos (by omega)]
        show oneS (m.take i b :: (sendL (i + 1) l (b - min (m.rest i).length b)).1)
        unfold oneS
        rw [if_neg (by omega)]
        exact ih
    · rw [if_neg hm] at h
      rw [if_neg hm]
      show oneS (m :: (sendL (i + 1) l b).1)
      unfold oneS
      rw [if_neg hm]
      exact sendL_one (i + 1) b (fun x hx => ok x (by simp [hx])) h
theorem sendL_ok : ∀ (i : Nat) {l : List Msg} (b : Nat), (∀ m ∈ l, MsgOk m) → ∀ m ∈ (sendL i l b).1, MsgOk m
  | _, [], _, _, m, hm => by cases hm
  | i, m :: l, b, ok, x, hx => by
    rw [sendL_cons] at hx
    split at hx
    · rename_i hm
      rcases List.mem_cons.1 hx with rfl | hx
      · exact MsgOk.take (ok m (by simp)) hm i b
      · exact sendL_ok (i + 1) _ (fun y hy => ok y (by simp [hy])) x hx
    · rcases List.mem_cons.1 hx with rfl | hx
      · exact ok _ (by simp)
      · exact sendL_ok (i + 1) _ (fun y hy => ok y (by simp [hy])) x hx

/-- How a state may go on. -/
def tr (x y : Nat) : Prop := x ≤ y ∧ (3 ≤ x → y = x) ∧ (x = 2 → y ≤ 3)
theorem tr_refl (x : Nat) : tr x x := ⟨Nat.le_refl _, fun _ => rfl, fun h => by omega⟩
theorem tr_trans {x y z : Nat} (h : tr x y) (k : tr y z) : tr x z := by
  obtain ⟨h1, h2, h3⟩ := h
  obtain ⟨k1, k2, k3⟩ := k
  refine ⟨by omega, fun e => ?_, fun e => ?_⟩
  · have := h2 e; have := k2 (by omega); omega
  · have := h3 e
    by_cases e2 : y = 2
    · exact k3 e2
    · have := k2 (by omega); omega
def Tr (ms ns : List Msg) : Prop := ms.length ≤ ns.length ∧ ∀ (i : Nat) (x y : Msg), ms[i]? = some x → ns[i]? = some y → tr x.st y.st
theorem Tr.refl (ms : List Msg) : Tr ms ms := ⟨Nat.le_refl _, fun i x y h1 h2 => by rw [h1] at h2; cases h2; exact tr_refl _⟩
theorem Tr.trans {a b c : List Msg} (h : Tr a b) (k : Tr b c) : Tr a c := by
  refine ⟨Nat.le_trans h.1 k.1, fun i x y h1 h2 => ?_⟩
  have hi := get_lt h1
  have hb : b[i]? = some (b[i]'(by have := h.1; omega)) := List.getElem?_eq_getElem _
  exact tr_trans (h.2 i _ _ h1 hb) (k.2 i _ _ hb h2)
theorem Tr.app (ms ns : List Msg) : Tr ms (ms ++ ns) := by
  refine ⟨by simp, fun i x y h1 h2 => ?_⟩
  rw [List.getElem?_append_left (get_lt h1), h1] at h2
  cases h2; exact tr_refl _
theorem Tr.cons {m n : Msg} {a b : List Msg} (h : tr m.st n.st) (k : Tr a b) : Tr (m :: a) (n :: b) := by
  refine ⟨by simp only [List.length_cons]; have := k.1; omega, fun i x y h1 h2 => ?_⟩
  cases i with
  | zero => simp at h1 h2; subst h1 h2; exact h
  | succ i => simp at h1 h2; exact k.2 i x y h1 h2
theorem dropM_tr (p : Int → Nat → Bool) (k : Nat) (hk : 2 < k) : ∀ (i : Nat) (l : List Msg), Tr l (dropM p k i l)
  | _, [] => Tr.refl _
  | i, m :: l => by
    refine Tr.cons ?_ (dropM_tr p k hk (i + 1) l)
    unfold Msg.dropped
    split
    · rename_i h
      exact ⟨by show m.st ≤ k; omega, fun e => by omega, fun e => by omega⟩
    · exact tr_refl _
theorem take_tr {m : Msg} (i b : Nat) (hm : m.st ≤ 2) : tr m.st (m.take i b).st := by
  unfold Msg.take
  split
  · exact tr_refl _
  · split
    · exact ⟨by show m.st ≤ 3; omega, fun e => by omega, fun e => by show 3 ≤ 3; omega⟩
    · exact ⟨hm, fun e => by omega, fun e => by show 2 ≤ 3; omega⟩
theorem sendL_tr : ∀ (i : Nat) (l : List Msg) (b : Nat), Tr l (sendL i l b).1
  | _, [], _ => Tr.refl _
  | i, m :: l, b => by
    rw [sendL_cons]
    split
    · rename_i hm
      exact Tr.cons (take_tr i b hm) (sendL_tr (i + 1) l _)
    · exact Tr.cons (tr_refl _) (sendL_tr (i + 1) l _)
/-- Open messages do not grow in number. -/
theorem openN_cons (m : Msg) (l : List Msg) : openN (m :: l) = openN l + (if m.st ≤ 2 then 1 else 0) := by
  unfold openN
  by_cases h : m.st ≤ 2 <;> simp [h]
theorem openN_tr : ∀ {a b : List Msg}, a.length = b.length → Tr a b → openN b ≤ openN a
  | [], [], _, _ => Nat.le_refl _
  | [], y :: b, h, _ => by simp at h
  | x :: a, [], h, _ => by simp at h
  | x :: a, y :: b, h, k => by
    have hl : a.length = b.length := by simpa using h
    have k' : Tr a b := ⟨by omega, fun i u v h1 h2 => k.2 (i + 1) u v (by simpa using h1) (by simpa using h2)⟩
    have ih := openN_tr hl k'
    have h0 := (k.2 0 x y rfl rfl).1
    rw [openN_cons, openN_cons]
    by_cases h1 : y.st ≤ 2
    · rw [if_pos h1, if_pos (by omega)]; omega
    · rw [if_neg h1]; omega

/-- What holds of a box between the operations. -/
structure MInv (room : Int) (ms : List Msg) : Prop where
  ok : ∀ m ∈ ms, MsgOk m
  one : oneS ms
  op : (openN ms : Int) ≤ room
theorem MInv.nil (room : Int) (h : 0 ≤ room) : MInv room [] := ⟨(fun m hm => by cases hm), trivial, by simpa [openN] using h⟩
theorem MInv.put {room : Int} {ms : List Msg} (h : MInv room ms) (data : List Int) (dl : Int) : MInv room (putM ms room data dl) ∧ Tr ms (putM ms room data dl) := by
  unfold putM
  by_cases hb : putBad data dl = true
  · rw [if_pos hb]; exact ⟨h, Tr.refl _⟩
  · rw [if_neg hb]
    have hb' : 1 ≤ data.length ∧ data.length ≤ 1000 ∧ -1 ≤ dl := by
      unfold putBad at hb
      simp only [Bool.or_eq_true, decide_eq_true_eq] at hb
      omega
    by_cases hr : room ≤ (openN ms : Int)
    · rw [if_pos hr]; exact ⟨h, Tr.refl _⟩
    · rw [if_neg hr]
      refine ⟨⟨?_, oneS_append h.one rfl, ?_⟩, Tr.app _ _⟩
      · intro m hm
        rcases List.mem_append.1 hm with hm | hm
        · exact h.ok m hm
        · obtain rfl := List.mem_singleton.1 hm
          exact ⟨hb'.1, hb'.2.1, hb'.2.2, Nat.le_refl _, by show 1 ≤ 5; omega, fun _ => rfl, fun _ => by show 0 < data.length + 5; omega⟩
      · rw [openN_append]
        show ((openN ms + 1 : Nat) : Int) ≤ room
        omega
theorem MInv.drop {room : Int} {ms : List Msg} (h : MInv room ms) (p : Int → Nat → Bool) (k : Nat) (hk : 2 < k) (hk5 : k ≤ 5) : MInv room (dropM p k 0 ms) ∧ Tr ms (dropM p k 0 ms) := by
  have ht := dropM_tr p k hk 0 ms
  refine ⟨⟨dropM_ok p k hk hk5 h.ok, dropM_one p k hk 0 h.one, ?_⟩, ht⟩
  have := openN_tr (dropM_len p k 0 ms).symm ht
  have := h.op
  omega
theorem MInv.cancel {room : Int} {ms : List Msg} (h : MInv room ms) (n : Int) : MInv room (cancelM ms n) ∧ Tr ms (cancelM ms n) := by
  unfold cancelM
  split
  · exact h.drop _ 4 (by decide) (by decide)
  · exact ⟨h, Tr.refl _⟩
theorem MInv.send {room : Int} {ms : List Msg} (h : MInv room ms) (b : Nat) : MInv room (sendL 0 ms b).1 ∧ Tr ms (sendL 0 ms b).1 := by
  have ht := sendL_tr 0 ms b
  refine ⟨⟨sendL_ok 0 b h.ok, sendL_one 0 b h.ok h.one, ?_⟩, ht⟩
  have := openN_tr (sendL_len 0 ms b).symm ht
  have := h.op
  omega
theorem MInv.next {room : Int} {ms : List Msg} (h : MInv room ms) (tick most : Int) : MInv room (nextM ms tick most) ∧ Tr ms (nextM ms tick most) := by
  obtain ⟨h1, h2⟩ := h.drop (pNext tick) 5 (by decide) (by decide)
  obtain ⟨h3, h4⟩ := h1.send most.toNat
  exact ⟨h3, h2.trans h4⟩
theorem cnt2_le : ∀ {l : List Msg}, oneS l → cnt (l.map Msg.st) 2 ≤ 1
  | [], _ => by simp [cnt]
  | m :: l, h => by
    unfold oneS at h
    have e : cnt ((m :: l).map Msg.st) 2 = cnt (l.map Msg.st) 2 + (if m.st = 2 then 1 else 0) := by
      simp only [cnt, List.map_cons, List.countP_cons, beq_iff_eq]
    rw [e]
    by_cases hm : m.st ≤ 2
    · rw [if_pos hm] at h
      have h0 : cnt (l.map Msg.st) 2 = 0 := by
        unfold cnt
        rw [List.countP_eq_zero]
        intro s hs
        obtain ⟨x, hx, rfl⟩ := List.mem_map.1 hs
        have := h x hx
        simpa using this
      rw [h0]
      split <;> omega
    · rw [if_neg hm] at h
      rw [if_neg (by omega)]
      exact cnt2_le h
theorem cnt_sum : ∀ {l : List Msg}, (∀ m ∈ l, MsgOk m) → cnt (l.map Msg.st) 1 + cnt (l.map Msg.st) 2 = openN l ∧ cnt (l.map Msg.st) 0 = 0 ∧
    cnt (l.map Msg.st) 1 + cnt (l.map Msg.st) 2 + cnt (l.map Msg.st) 3 + cnt (l.map Msg.st) 4 + cnt (l.map Msg.st) 5 = l.length
  | [], _ => by simp [cnt, openN]
  | m :: l, h => by
    obtain ⟨i1, i2, i3⟩ := cnt_sum (l := l) fun x hx => h x (List.mem_cons_of_mem _ hx)
    have hs := h m (by simp)
    have s1 := hs.s1
    have s5 := hs.s5
    have e : ∀ k, cnt ((m :: l).map Msg.st) k = cnt (l.map Msg.st) k + (if m.st = k then 1 else 0) := fun k => by
      simp only [cnt, List.map_cons, List.countP_cons, beq_iff_eq]
    rw [openN_cons, e 0, e 1, e 2, e 3, e 4, e 5, List.length_cons]
    have : m.st = 1 ∨ m.st = 2 ∨ m.st = 3 ∨ m.st = 4 ∨ m.st = 5 := by omega
    rcases this with hm | hm | hm | hm | hm <;> rw [hm] <;> simp <;> omega
end Go.Proofs.YtkaaoomliepijaaGreat
namespace Go.Proofs.YtkaaoomliepijaaGreat
open Go.RowKit
set_option linter.unusedVariables false

theorem len2_form (i : Nat) (d r : List Int) : len2 (form i d ++ r) = d.length := by
  unfold len2 form at0
  simp
  omega
theorem num3_form (i : Nat) (d r : List Int) (hi : i ≤ 16777215) : num3 (form i d ++ r) = i := by
  unfold num3 form at0
  simp
  omega
theorem gate_form (i : Nat) (d r : List Int) (last : Int) (h1 : 1 ≤ d.length) (h2 : d.length ≤ 1000) (hi : i ≤ 16777215) (hl : last < i) :
    gate (form i d ++ r) last = ⟨d :: (gate r i).out, (gate r i).rest, (gate r i).last, (gate r i).bad⟩ := by
  have hlen : (form i d ++ r).length = d.length + 5 + r.length := by rw [List.length_append, form_len]
  have e1 : ¬ (form i d ++ r).length < 2 := by omega
  have e2 : badB (form i d ++ r) last = false := by
    unfold badB numOf
    rw [len2_form, num3_form i d r hi, if_pos (by omega)]
    rw [decide_eq_false (by omega : ¬ (d.length : Int) < 1), decide_eq_false (by omega : ¬ (1000 : Int) < (d.length : Int)), decide_eq_false (by omega : ¬ (i : Int) ≤ last)]
    rfl
  have e3 : shortB (form i d ++ r) = false := by
    unfold shortB
    rw [len2_form, hlen]
    exact decide_eq_false (by omega)
  rw [gate_one e1 e2 e3, len2_form, num3_form i d r hi, Int.toNat_natCast]
  have d5 : (form i d ++ r).drop 5 = d ++ r := rfl
  have d6 : (form i d ++ r).drop (5 + d.length) = r := by rw [← List.drop_drop, d5, List.drop_left]
  rw [d5, d6, List.take_left]
theorem gate_form0 (i : Nat) (d : List Int) (last : Int) (h1 : 1 ≤ d.length) (h2 : d.length ≤ 1000) (hi : i ≤ 16777215) (hl : last < i) : gate (form i d) last = ⟨[d], [], i, false⟩ := by
  have := gate_form i d [] last h1 h2 hi hl
  rw [List.append_nil] at this
  rw [this]
  rfl
theorem form_isB (i : Nat) (d : List Int) (hi : i ≤ 16777215) (hd : IsB d) (hl : d.length ≤ 1000) : IsB (form i d) := by
  intro y hy
  unfold form at hy
  simp only [List.mem_cons] at hy
  rcases hy with rfl | rfl | rfl | rfl | rfl | hy
  all_goals first | exact hd y hy | omega

end Go.Proofs.YtkaaoomliepijaaGreat
namespace Go.Proofs.YtkaaoomliepijaaGreat
open Go.RowKit
set_option linter.unusedVariables false

/-- The stream of data, from number 3 j + 1 on. -/
def strm : Nat → List (List Int) → List Int
  | _, [] => []
  | j, d :: l => form (3 * j + 1) d ++ strm (j + 1) l
theorem strm_append : ∀ (j : Nat) (a b : List (List Int)), strm j (a ++ b) = strm j a ++ strm (j + a.length) b
  | j, [], b => rfl
  | j, d :: a, b => by
    have ih := strm_append (j + 1) a b
    show form (3 * j + 1) d ++ strm (j + 1) (a ++ b) = (form (3 * j + 1) d ++ strm (j + 1) a) ++ strm (j + (a.length + 1)) b
    rw [ih, List.append_assoc, show j + 1 + a.length = j + (a.length + 1) by omega]
theorem strm_snoc (a : List (List Int)) (d : List Int) : strm 0 (a ++ [d]) = strm 0 a ++ form (3 * a.length + 1) d := by
  rw [strm_append]
  show _ ++ (form (3 * (0 + a.length) + 1) d ++ []) = _
  rw [List.append_nil, Nat.zero_add]
def Good (l : List (List Int)) : Prop := ∀ d ∈ l, 1 ≤ d.length ∧ d.length ≤ 100 ∧ IsB d
theorem strm_len : ∀ (j : Nat) (l : List (List Int)), Good l → (strm j l).length ≤ l.length * 105
  | _, [], _ => by simp [strm]
  | j, d :: l, h => by
    have ih := strm_len (j + 1) l fun x hx => h x (by simp [hx])
    have hd := h d (by simp)
    show (form (3 * j + 1) d ++ strm (j + 1) l).length ≤ (l.length + 1) * 105
    rw [List.length_append, form_len]
    omega
theorem strm_isB : ∀ (j : Nat) (l : List (List Int)), Good l → j + l.length ≤ 1000 → IsB (strm j l)
  | _, [], _, _ => by intro y hy; cases hy
  | j, d :: l, h, hj => by
    have ih := strm_isB (j + 1) l (fun x hx => h x (by simp [hx])) (by simp at hj; omega)
    have hd := h d (by simp)
    exact (form_isB (3 * j + 1) d (by simp at hj; omega) hd.2.2 (by omega)).append ih
/-- A gate on the stream, and what follows. -/
theorem gate_strm : ∀ (j : Nat) (l : List (List Int)) (r : List Int) (last : Int), Good l → j + l.length ≤ 1000 → last < 3 * j + 1 →
    gate (strm j l ++ r) last = ⟨l ++ (gate r (if l = [] then last else 3 * ((j + l.length : Nat) : Int) - 2)).out, (gate r (if l = [] then last else 3 * ((j + l.length : Nat) : Int) - 2)).rest,
      (gate r (if l = [] then last else 3 * ((j + l.length : Nat) : Int) - 2)).last, (gate r (if l = [] then last else 3 * ((j + l.length : Nat) : Int) - 2)).bad⟩
  | j, [], r, last, _, _, _ => rfl
  | j, d :: l, r, last, h, hj, hl => by
    have hd := h d (by simp)
    have hj' : j + 1 + l.length ≤ 1000 := by simp at hj; omega
    have ih := gate_strm (j + 1) l r ((3 * j + 1 : Nat) : Int) (fun x hx => h x (by simp [hx])) hj' (by omega)
    show gate ((form (3 * j + 1) d ++ strm (j + 1) l) ++ r) last = _
    rw [List.append_assoc, gate_form (3 * j + 1) d _ last hd.1 (by omega) (by omega) (by omega), ih]
    have e : (if l = [] then ((3 * j + 1 : Nat) : Int) else 3 * ((j + 1 + l.length : Nat) : Int) - 2) = 3 * ((j + (d :: l).length : Nat) : Int) - 2 := by
      cases l with
      | nil => simp; omega
      | cons x l => simp; omega
    rw [e, if_neg (by simp)]
    rfl
theorem gate_all (l : List (List Int)) (h : Good l) (hl : l.length ≤ 1000) : gate (strm 0 l) (-1) = ⟨l, [], if l = [] then -1 else 3 * (l.length : Int) - 2, false⟩ := by
  have := gate_strm 0 l [] (-1) h (by omega) (by omega)
  rw [List.append_nil, Nat.zero_add] at this
  rw [this]
  simp [gate_stop]
/-- No beginning of it breaks a gate. -/
theorem gate_take (l : List (List Int)) (h : Good l) (hl : l.length ≤ 1000) (n : Nat) : (gate ((strm 0 l).take n) (-1)).bad = false := by
  have h1 := gate_app ((strm 0 l).take n) ((strm 0 l).drop n) (-1)
  rw [List.take_append_drop, gate_all l h hl] at h1
  cases hb : (gate ((strm 0 l).take n) (-1)).bad with
  | false => rfl
  | true =>
    rw [hb, if_pos rfl] at h1
    have := congrArg GS.bad h1
    simp at this
/-- A form that is cut. -/
theorem gate_cut (i : Nat) (d : List Int) (last : Int) (h1 : 1 ≤ d.length) (h2 : d.length ≤ 1000) (hi : i ≤ 16777215) (hl : last < i) (m : Nat) (hm : m < d.length + 5) :
    gate ((form i d).take m) last = ⟨[], (form i d).take m, last, false⟩ := by
  have ht : ((form i d).take m).length = m := by rw [List.length_take, form_len]; omega
  by_cases hm2 : m < 2
  · exact gate_stop (by omega)
  · have hsplit := List.take_append_drop m (form i d)
    have e1 : len2 ((form i d).take m) = d.length := by
      rw [← len2_append (b := (form i d).drop m) (by omega), hsplit]
      have := len2_form i d []
      rwa [List.append_nil] at this
    have e2 : badB ((form i d).take m) last = false := by
      unfold badB numOf
      rw [e1]
      by_cases h5 : 5 ≤ ((form i d).take m).length
      · rw [if_pos h5, ← num3_append (b := (form i d).drop m) h5, hsplit]
        have := num3_form i d [] hi
        rw [List.append_nil] at this
        rw [this, decide_eq_false (by omega : ¬ (d.length : Int) < 1), decide_eq_false (by omega : ¬ (1000 : Int) < (d.length : Int)), decide_eq_false (by omega : ¬ (i : Int) ≤ last)]
        rfl
      · rw [if_neg h5, decide_eq_false (by omega : ¬ (d.length : Int) < 1), decide_eq_false (by omega : ¬ (1000 : Int) < (d.length : Int)), decide_eq_false (by omega : ¬ last + 1 ≤ last)]
        rfl
    exact gate_short (by omega) e2 (by unfold shortB; rw [e1, ht]; exact decide_eq_true (by omega))
/-- The stream without its last k bytes. -/
theorem gate_less (l : List (List Int)) (d : List Int) (h : Good (l ++ [d])) (hl : l.length ≤ 999) (k : Nat) (hk : 1 ≤ k) (hk2 : k ≤ d.length + 5) :
    (gate ((strm 0 (l ++ [d])).take ((strm 0 (l ++ [d])).length - k)) (-1)).out = l ∧ (gate ((strm 0 (l ++ [d])).take ((strm 0 (l ++ [d])).length - k)) (-1)).rest.length = (strm 0 (l ++ [d])).length - k - (strm 0 l).length ∧
      (gate ((strm 0 (l ++ [d])).take ((strm 0 (l ++ [d])).length - k)) (-1)).bad = false := by
  have hd := h d (by simp)
  have hg : Good l := fun x hx => h x (by simp [hx])
  have hlen : (strm 0 (l ++ [d])).length = (strm 0 l).length + (d.length + 5) := by rw [strm_snoc, List.length_append, form_len]
  have e : (strm 0 (l ++ [d])).take ((strm 0 (l ++ [d])).length - k) = strm 0 l ++ (form (3 * l.length + 1) d).take (d.length + 5 - k) := by
    rw [hlen, strm_snoc, show (strm 0 l).length + (d.length + 5) - k = (strm 0 l).length + (d.length + 5 - k) by omega, List.take_length_add_append]
  rw [e, gate_strm 0 l _ (-1) hg (by omega) (by omega), Nat.zero_add, gate_cut (3 * l.length + 1) d _ hd.1 (by omega) (by omega) (by split <;> omega) _ (by omega), hlen]
  refine ⟨by simp, ?_, rfl⟩
  rw [List.length_take, form_len]
  omega
end Go.Proofs.YtkaaoomliepijaaGreat
namespace Go.Proofs.YtkaaoomliepijaaGreat
open Go.RowKit
set_option linter.unusedVariables false

structure OutOk (m : Msg) : Prop where
  ok : MsgOk m
  s3 : m.st = 3 → m.out = m.data.length + 5
  s4 : 4 ≤ m.st → m.out = 0
/-- Behind the first open message nothing was handed out. -/
def ordO : List Msg → Prop
  | [] => True
  | m :: l => if m.st ≤ 2 then ∀ x ∈ l, x.out = 0 else ordO l
theorem ordO_zero : ∀ {l : List Msg}, (∀ x ∈ l, x.out = 0) → ordO l
  | [], _ => trivial
  | m :: l, h => by
    unfold ordO
    split
    · exact fun x hx => h x (by simp [hx])
    · exact ordO_zero fun x hx => h x (by simp [hx])
/-- The bytes that left. -/
def strmM : Nat → List Msg → List Int
  | _, [] => []
  | i, m :: l => (form i m.data).take m.out ++ strmM (i + 1) l
theorem strmM_zero : ∀ (i : Nat) {l : List Msg}, (∀ x ∈ l, x.out = 0) → strmM i l = []
  | _, [], _ => rfl
  | i, m :: l, h => by
    unfold strmM
    rw [h m (by simp), strmM_zero (i + 1) fun x hx => h x (by simp [hx])]
    rfl
theorem strmM_append : ∀ (i : Nat) (a b : List Msg), strmM i (a ++ b) = strmM i a ++ strmM (i + a.length) b
  | i, [], b => rfl
  | i, m :: a, b => by
    have ih := strmM_append (i + 1) a b
    show (form i m.data).take m.out ++ strmM (i + 1) (a ++ b) = ((form i m.data).take m.out ++ strmM (i + 1) a) ++ strmM (i + (a.length + 1)) b
    rw [ih, List.append_assoc, show i + 1 + a.length = i + (a.length + 1) by omega]
def sentL : List Msg → List (List Int)
  | [] => []
  | m :: l => if m.st = 3 then m.data :: sentL l else sentL l
def lastS : Nat → List Msg → Int → Int
  | _, [], last => last
  | i, m :: l, last => lastS (i + 1) l (if m.st = 3 then (i : Int) else last)
theorem sentL_zero : ∀ {l : List Msg}, (∀ x ∈ l, x.st ≠ 3) → sentL l = []
  | [], _ => rfl
  | m :: l, h => by
    unfold sentL
    rw [if_neg (h m (by simp)), sentL_zero fun x hx => h x (by simp [hx])]
theorem lastS_zero : ∀ (i : Nat) {l : List Msg} (last : Int), (∀ x ∈ l, x.st ≠ 3) → lastS i l last = last
  | _, [], _, _ => rfl
  | i, m :: l, last, h => by
    unfold lastS
    rw [if_neg (h m (by simp)), lastS_zero (i + 1) last fun x hx => h x (by simp [hx])]
theorem zero_no3 {l : List Msg} (ok : ∀ m ∈ l, OutOk m) (h : ∀ x ∈ l, x.out = 0) : ∀ x ∈ l, x.st ≠ 3 := by
  intro x hx e
  have h1 := (ok x hx).s3 e
  have h2 := h x hx
  omega
/-- What a gate makes of the bytes that left. -/
theorem gate_strmM : ∀ (i : Nat) (ms : List Msg) (last : Int), (∀ m ∈ ms, OutOk m) → ordO ms → i + ms.length ≤ 1000000 → last < i →
    (gate (strmM i ms) last).out = sentL ms ∧ (gate (strmM i ms) last).last = lastS i ms last ∧ (gate (strmM i ms) last).bad = false
  | i, [], last, _, _, _, _ => ⟨rfl, rfl, rfl⟩
  | i, m :: l, last, ok, ho, hi, hl => by
    have hm := ok m (by simp)
    have okl : ∀ x ∈ l, OutOk x := fun x hx => ok x (by simp [hx])
    simp only [List.length_cons] at hi
    unfold ordO at ho
    by_cases h2 : m.st ≤ 2
    · rw [if_pos h2] at ho
      have e1 : strmM i (m :: l) = (form i m.data).take m.out := by
        show _ ++ strmM (i + 1) l = _
        rw [strmM_zero (i + 1) ho, List.append_nil]
      have h3 := zero_no3 okl ho
      rw [e1, gate_cut i m.data last hm.ok.d1 hm.ok.d2 (by omega) hl m.out (hm.ok.s h2)]
      refine ⟨?_, ?_, rfl⟩
      · unfold sentL; rw [if_neg (by omega), sentL_zero h3]
      · unfold lastS; rw [if_neg (by omega), lastS_zero _ _ h3]
    · rw [if_neg h2] at ho
      by_cases h3 : m.st = 3
      · have e1 : strmM i (m :: l) = form i m.data ++ strmM (i + 1) l := by
          show (form i m.data).take m.out ++ _ = _
          rw [List.take_of_length_le (by rw [form_len, hm.s3 h3]; exact Nat.le_refl _)]
        obtain ⟨g1, g2, g3⟩ := gate_strmM (i + 1) l i okl ho (by omega) (by omega)
        rw [e1, gate_form i m.data _ last hm.ok.d1 hm.ok.d2 (by omega) hl]
        unfold sentL lastS
        rw [if_pos h3, if_pos h3]
        exact ⟨by rw [g1], g2, g3⟩
      · have e1 : strmM i (m :: l) = strmM (i + 1) l := by
          show (form i m.data).take m.out ++ _ = _
          rw [hm.s4 (by omega)]
          rfl
        obtain ⟨g1, g2, g3⟩ := gate_strmM (i + 1) l last okl ho (by omega) (by omega)
        rw [e1]
        unfold sentL lastS
        rw [if_neg h3, if_neg h3]
        exact ⟨g1, g2, g3⟩
theorem OutOk.take {m : Msg} (h : OutOk m) (hm : m.st ≤ 2) (i b : Nat) : OutOk (m.take i b) := by
  have h1 := MsgOk.take h.ok hm i b
  have hr := rest_len m i
  have hs := h.ok.s hm
  refine ⟨h1, ?_, ?_⟩
  · unfold Msg.take
    split
    · intro e; omega
    · split
      · intro _; show m.out + min (m.rest i).length b = m.data.length + 5; omega
      · intro e; exact absurd (show (2 : Nat) = 3 from e) (by decide)
  · unfold Msg.take
    split
    · intro e; omega
    · split
      · intro e; exact absurd (show 4 ≤ 3 from e) (by decide)
      · intro e; exact absurd (show 4 ≤ 2 from e) (by decide)
theorem send_strm : ∀ (i : Nat) (l : List Msg) (b : Nat), (∀ m ∈ l, OutOk m) → ordO l →
    strmM i (sendL i l b).1 = strmM i l ++ (sendL i l b).2 ∧ ordO (sendL i l b).1 ∧ ∀ m ∈ (sendL i l b).1, OutOk m
  | i, [], b, _, _ => ⟨rfl, trivial, fun m hm => by cases hm⟩
  | i, m :: l, b, ok, ho => by
    have hm := ok m (by simp)
    have okl : ∀ x ∈ l, OutOk x := fun x hx => ok x (by simp [hx])
    unfold ordO at ho
    rw [sendL_cons]
    by_cases h2 : m.st ≤ 2
    · rw [if_pos h2] at ho
      rw [if_pos h2]
      have hz := strmM_zero (i + 1) ho
      have hr := rest_len m i
      have hs := hm.ok.s h2
      by_cases hb : b < (m.rest i).length
      · have e : b - min (m.rest i).length b = 0 := by omega
        rw [e, sendL_zero]
        have ot : (m.take i b).out = m.out + b ∧ (m.take i b).data = m.data ∧ (m.take i b).st ≤ 2 := by
          unfold Msg.take
          split
          · exact ⟨by omega, rfl, h2⟩
          · rw [if_neg (by omega)]
            exact ⟨by show m.out + min (m.rest i).length b = _; omega, rfl, Nat.le_refl _⟩
        obtain ⟨o1, o2, o3⟩ := ot
        refine ⟨?_, ?_, ?_⟩
        · show (form i (m.take i b).data).take (m.take i b).out ++ strmM (i + 1) l = ((form i m.data).take m.out ++ strmM (i + 1) l) ++ ((m.rest i).take b ++ [])
          rw [o1, o2, hz, List.append_nil, List.append_nil, List.append_nil, List.take_add]
          rfl
        · show ordO (m.take i b :: l)
          unfold ordO
          rw [if_pos o3]
          exact ho
        · intro x hx
          rcases List.mem_cons.1 hx with rfl | hx
          · exact hm.take h2 i b
          · exact okl x hx
      · obtain ⟨g1, g2, g3⟩ := send_strm (i + 1) l (b - min (m.rest i).length b) okl (ordO_zero ho)
        have ot : (m.take i b).out = m.data.length + 5 ∧ (m.take i b).data = m.data ∧ (m.take i b).st = 3 := by
          unfold Msg.take
          rw [if_neg (by omega), if_pos (by omega)]
          exact ⟨by show m.out + min (m.rest i).length b = _; omega, rfl, rfl⟩
        obtain ⟨o1, o2, o3⟩ := ot
        refine ⟨?_, ?_, ?_⟩
        · show (form i (m.take i b).data).take (m.take i b).out ++ strmM (i + 1) (sendL (i + 1) l (b - min (m.rest i).length b)).1 = ((form i m.data).take m.out ++ strmM (i + 1) l) ++ ((m.rest i).take b ++ (sendL (i + 1) l (b - min (m.rest i).length b)).2)
          rw [o1, o2, g1, hz, List.nil_append, List.append_nil, List.take_of_length_le (by rw [form_len]; exact Nat.le_refl _), List.take_of_length_le (l := m.rest i) (by omega), ← List.append_assoc]
          unfold Msg.rest
          rw [List.take_append_drop]
        · show ordO (m.take i b :: _)
          unfold ordO
          rw [if_neg (by omega)]
          exact g2
        · intro x hx
          rcases List.mem_cons.1 hx with rfl | hx
          · exact hm.take h2 i b
          · exact g3 x hx
    · rw [if_neg h2] at ho
      rw [if_neg h2]
      obtain ⟨g1, g2, g3⟩ := send_strm (i + 1) l b okl ho
      refine ⟨?_, ?_, ?_⟩
      · show (form i m.data).take m.out ++ strmM (i + 1) (sendL (i + 1) l b).1 = ((form i m.data).take m.out ++ strmM (i + 1) l) ++ (sendL (i + 1) l b).2
        rw [g1, List.append_assoc]
      · show ordO (m :: _)
        unfold ordO
        rw [if_neg h2]
        exact g2
      · intro x hx
        rcases List.mem_cons.1 hx with rfl | hx
        · exact hm
        · exact g3 x hx
theorem drop_strm (p : Int → Nat → Bool) (k : Nat) (hk : 4 ≤ k) (hk5 : k ≤ 5) : ∀ (i : Nat) (l : List Msg), (∀ m ∈ l, OutOk m) → ordO l →
    strmM i (dropM p k i l) = strmM i l ∧ ordO (dropM p k i l) ∧ (∀ m ∈ dropM p k i l, OutOk m) ∧ ((∀ x ∈ l, x.out = 0) → ∀ x ∈ dropM p k i l, x.out = 0)
  | i, [], _, _ => ⟨rfl, trivial, (fun m hm => by cases hm), fun _ m hm => by cases hm⟩
  | i, m :: l, ok, ho => by
    have hm := ok m (by simp)
    have okl : ∀ x ∈ l, OutOk x := fun x hx => ok x (by simp [hx])
    have hol : ordO l := by
      unfold ordO at ho
      split at ho
      · exact ordO_zero ho
      · exact ho
    obtain ⟨g1, g2, g3, g4⟩ := drop_strm p k hk hk5 (i + 1) l okl hol
    have hd : (m.dropped p k i).data = m.data ∧ (m.dropped p k i).out = m.out := by unfold Msg.dropped; split <;> exact ⟨rfl, rfl⟩
    have hok : OutOk (m.dropped p k i) := by
      unfold Msg.dropped
      split
      · rename_i h
        have h0 := hm.ok.w h.1
        exact ⟨⟨hm.ok.d1, hm.ok.d2, hm.ok.dl, (by show 1 ≤ k; omega), hk5, (fun e => by have : k = 1 := e; omega), (fun e => by have : k ≤ 2 := e; omega)⟩, (fun e => by have : k = 3 := e; omega), fun _ => h0⟩
      · exact hm
    refine ⟨?_, ?_, ?_, ?_⟩
    · show (form i (m.dropped p k i).data).take (m.dropped p k i).out ++ strmM (i + 1) (dropM p k (i + 1) l) = (form i m.data).take m.out ++ strmM (i + 1) l
      rw [hd.1, hd.2, g1]
    · show ordO (m.dropped p k i :: dropM p k (i + 1) l)
      unfold ordO
      split
      · rename_i h2
        have hm2 : m.st ≤ 2 := by
          unfold Msg.dropped at h2
          split at h2
          · have : k ≤ 2 := h2; omega
          · exact h2
        unfold ordO at ho
        rw [if_pos hm2] at ho
        exact g4 ho
      · exact g2
    · intro x hx
      rcases List.mem_cons.1 hx with rfl | hx
      · exact hok
      · exact g3 x hx
    · intro h0 x hx
      rcases List.mem_cons.1 hx with rfl | hx
      · rw [hd.2]; exact h0 m (by simp)
      · exact g4 (fun y hy => h0 y (by simp [hy])) x hx
theorem ordO_append : ∀ {l : List Msg} {m : Msg}, ordO l → m.out = 0 → ordO (l ++ [m])
  | [], m, _, h => by
    show ordO [m]
    unfold ordO
    split
    · intro x hx; cases hx
    · trivial
  | y :: l, m, hl, h => by
    rw [List.cons_append]
    unfold ordO at hl ⊢
    split
    · rename_i hy
      rw [if_pos hy] at hl
      intro x hx
      rcases List.mem_append.1 hx with hx | hx
      · exact hl x hx
      · obtain rfl := List.mem_singleton.1 hx
        exact h
    · rename_i hy
      rw [if_neg hy] at hl
      exact ordO_append hl h
/-- What holds between the operations. -/
structure AInv (ms : List Msg) : Prop where
  ok : ∀ m ∈ ms, OutOk m
  ord : ordO ms
theorem AInv.nil : AInv [] := ⟨(fun m hm => by cases hm), trivial⟩
theorem AInv.mok {ms : List Msg} (h : AInv ms) : ∀ m ∈ ms, MsgOk m := fun m hm => (h.ok m hm).ok
theorem AInv.put {ms : List Msg} (h : AInv ms) (room : Int) (data : List Int) (dl : Int) : AInv (putM ms room data dl) ∧ strmM 0 (putM ms room data dl) = strmM 0 ms := by
  unfold putM
  by_cases hb : putBad data dl = true
  · rw [if_pos hb]; exact ⟨h, rfl⟩
  · rw [if_neg hb]
    have hb' : 1 ≤ data.length ∧ data.length ≤ 1000 ∧ -1 ≤ dl := by
      unfold putBad at hb
      simp only [Bool.or_eq_true, decide_eq_true_eq] at hb
      omega
    by_cases hr : room ≤ (openN ms : Int)
    · rw [if_pos hr]; exact ⟨h, rfl⟩
    · rw [if_neg hr]
      refine ⟨⟨?_, ordO_append h.ord rfl⟩, ?_⟩
      · intro m hm
        rcases List.mem_append.1 hm with hm | hm
        · exact h.ok m hm
        · obtain rfl := List.mem_singleton.1 hm
          exact ⟨⟨hb'.1, hb'.2.1, hb'.2.2, Nat.le_refl _, (by show 1 ≤ 5; omega), (fun _ => rfl), fun _ => (by show 0 < data.length + 5; omega)⟩, (fun e => absurd (show (1 : Nat) = 3 from e) (by decide)), fun e => absurd (show 4 ≤ 1 from e) (by decide)⟩
      · rw [strmM_append]
        show strmM 0 ms ++ ((form (0 + ms.length) data).take 0 ++ []) = _
        simp
theorem AInv.cancel {ms : List Msg} (h : AInv ms) (n : Int) : AInv (cancelM ms n) ∧ strmM 0 (cancelM ms n) = strmM 0 ms := by
  unfold cancelM
  split
  · obtain ⟨g1, g2, g3, _⟩ := drop_strm (pCancel n.toNat) 4 (by decide) (by decide) 0 ms h.ok h.ord
    exact ⟨⟨g3, g2⟩, g1⟩
  · exact ⟨h, rfl⟩
theorem AInv.next {ms : List Msg} (h : AInv ms) (tick most : Int) : AInv (nextM ms tick most) ∧ strmM 0 (nextM ms tick most) = strmM 0 ms ++ nextW ms tick most := by
  obtain ⟨g1, g2, g3, _⟩ := drop_strm (pNext tick) 5 (by decide) (by decide) 0 ms h.ok h.ord
  obtain ⟨k1, k2, k3⟩ := send_strm 0 (dropM (pNext tick) 5 0 ms) most.toNat g3 g2
  rw [g1] at k1
  exact ⟨⟨k3, k2⟩, k1⟩
theorem strmM_len : ∀ (i : Nat) (l : List Msg), (∀ m ∈ l, OutOk m) → (strmM i l).length ≤ l.length * 1005
  | _, [], _ => by simp [strmM]
  | i, m :: l, h => by
    have ih := strmM_len (i + 1) l fun x hx => h x (by simp [hx])
    have hd := (h m (by simp)).ok.d2
    show ((form i m.data).take m.out ++ strmM (i + 1) l).length ≤ (l.length + 1) * 1005
    rw [List.length_append, List.length_take, form_len]
    omega
theorem sentL_len : ∀ (l : List Msg), (sentL l).length = cnt (l.map Msg.st) 3
  | [] => rfl
  | m :: l => by
    have ih := sentL_len l
    have e : cnt ((m :: l).map Msg.st) 3 = cnt (l.map Msg.st) 3 + (if m.st = 3 then 1 else 0) := by
      simp only [cnt, List.map_cons, List.countP_cons, beq_iff_eq]
    rw [e]
    unfold sentL
    by_cases h : m.st = 3
    · rw [if_pos h, if_pos h, List.length_cons, ih]
    · rw [if_neg h, if_neg h, ih, Nat.add_zero]
theorem sentL_append : ∀ (a b : List Msg), sentL (a ++ b) = sentL a ++ sentL b
  | [], b => rfl
  | m :: a, b => by
    have ih := sentL_append a b
    show (if m.st = 3 then m.data :: sentL (a ++ b) else sentL (a ++ b)) = (if m.st = 3 then m.data :: sentL a else sentL a) ++ sentL b
    rw [ih]
    split <;> rfl
theorem lastS_append : ∀ (i : Nat) (a b : List Msg) (last : Int), lastS i (a ++ b) last = lastS (i + a.length) b (lastS i a last)
  | i, [], b, last => rfl
  | i, m :: a, b, last => by
    have ih := lastS_append (i + 1) a b (if m.st = 3 then (i : Int) else last)
    show lastS (i + 1) (a ++ b) _ = lastS (i + (a.length + 1)) b (lastS (i + 1) a _)
    rw [ih, show i + 1 + a.length = i + (a.length + 1) by omega]
theorem lastS_bd : ∀ (i : Nat) (l : List Msg) (last : Int), -1 ≤ last → last < i → -1 ≤ lastS i l last ∧ lastS i l last < ((i + l.length : Nat) : Int)
  | i, [], last, h1, h2 => ⟨h1, by show last < _; simpa using h2⟩
  | i, m :: l, last, h1, h2 => by
    obtain ⟨g1, g2⟩ := lastS_bd (i + 1) l (if m.st = 3 then (i : Int) else last) (by split <;> omega) (by split <;> omega)
    refine ⟨g1, ?_⟩
    show lastS (i + 1) l _ < _
    rw [List.length_cons, show i + (l.length + 1) = i + 1 + l.length by omega]
    exact g2
end Go.Proofs.YtkaaoomliepijaaGreat
