/-
  Plain laws: the messages of a box, without a program.
-/
import Derived.Test.YtjljjohoipnhhaaVw
namespace Go.Proofs.Ytjljjohoipnhhaa
open Go.RowKit
set_option linter.unusedVariables false

/-- A message: its data, its deadline, its state, and how many bytes of its form are out. -/
structure Msg where
  data : List Int
  dl : Int
  st : Nat
  out : Nat
  deriving Inhabited
def form (i : Nat) (d : List Int) : List Int :=
  ((d.length / 256 : Nat) : Int) :: ((d.length % 256 : Nat) : Int) :: ((i / 65536 : Nat) : Int) :: ((i / 256 % 256 : Nat) : Int) :: ((i % 256 : Nat) : Int) :: d
theorem form_len (i : Nat) (d : List Int) : (form i d).length = d.length + 5 := rfl
def Msg.rest (m : Msg) (i : Nat) : List Int := (form i m.data).drop m.out
theorem rest_len (m : Msg) (i : Nat) : (m.rest i).length = m.data.length + 5 - m.out := by unfold Msg.rest; rw [List.length_drop, form_len]

/-- What the queue holds of the messages from number i on: number, deadline, bytes. -/
def queueL : Nat → List Msg → List (Nat × Int × List Int)
  | _, [] => []
  | i, m :: l => if m.st ≤ 2 then (i, m.dl, m.rest i) :: queueL (i + 1) l else queueL (i + 1) l
def openN (ms : List Msg) : Nat := (ms.filter fun m => decide (m.st ≤ 2)).length
theorem queueL_len : ∀ (i : Nat) (ms : List Msg), (queueL i ms).length = openN ms
  | _, [] => rfl
  | i, m :: l => by
    have := queueL_len (i + 1) l
    unfold queueL openN
    unfold openN at this
    by_cases h : m.st ≤ 2 <;> simp [h, this]
theorem queueL_ge : ∀ (i : Nat) (ms : List Msg) (x : Nat × Int × List Int), x ∈ queueL i ms → i ≤ x.1 ∧ x.1 < i + ms.length
  | _, [], x, h => by simp [queueL] at h
  | i, m :: l, x, h => by
    have ih := queueL_ge (i + 1) l x
    unfold queueL at h
    simp only [List.length_cons]
    split at h
    · rcases List.mem_cons.1 h with rfl | h
      · exact ⟨Nat.le_refl _, by omega⟩
      · have := ih h; omega
    · have := ih h; omega
theorem queueL_cons (i : Nat) (m : Msg) (l : List Msg) : queueL i (m :: l) = if m.st ≤ 2 then (i, m.dl, m.rest i) :: queueL (i + 1) l else queueL (i + 1) l := rfl
theorem queueL_append : ∀ (i : Nat) (a b : List Msg), queueL i (a ++ b) = queueL i a ++ queueL (i + a.length) b
  | i, [], b => by simp [queueL]
  | i, m :: a, b => by
    have ih := queueL_append (i + 1) a b
    rw [List.cons_append, List.length_cons, show i + (a.length + 1) = i + 1 + a.length by omega, queueL_cons, queueL_cons, ih]
    split <;> simp
theorem openN_append (a b : List Msg) : openN (a ++ b) = openN a + openN b := by unfold openN; rw [List.filter_append, List.length_append]

/-- What holds of the messages of a box. -/
structure MsgOk (m : Msg) : Prop where
  d1 : 1 ≤ m.data.length
  d2 : m.data.length ≤ 1000
  dl : -1 ≤ m.dl
  s1 : 1 ≤ m.st
  s5 : m.st ≤ 5
  w : m.st = 1 → m.out = 0
  s : m.st ≤ 2 → m.out < m.data.length + 5
def MsOk (ms : List Msg) : Prop := (∀ m ∈ ms, MsgOk m) ∧ ms.length ≤ 1000

/-- How many states are k. -/
def cnt (st : List Nat) (k : Nat) : Nat := st.countP fun s => s == k
def cnts (st : List Nat) : List Value := [.int .i64 (cnt st 0), .int .i64 (cnt st 1), .int .i64 (cnt st 2), .int .i64 (cnt st 3), .int .i64 (cnt st 4), .int .i64 (cnt st 5)]
theorem cnts_get (st : List Nat) {k : Nat} (h : k ≤ 5) : (cnts st)[k]? = some (.int .i64 (cnt st k)) := by
  have : k = 0 ∨ k = 1 ∨ k = 2 ∨ k = 3 ∨ k = 4 ∨ k = 5 := by omega
  rcases this with rfl | rfl | rfl | rfl | rfl | rfl <;> rfl
theorem cnt_le (st : List Nat) (k : Nat) : cnt st k ≤ st.length := List.countP_le_length
theorem cnt_append (a b : List Nat) (k : Nat) : cnt (a ++ b) k = cnt a k + cnt b k := by unfold cnt; rw [List.countP_append]
theorem cnt_pos {st : List Nat} {n s : Nat} (h : st[n]? = some s) : 1 ≤ cnt st s := by
  unfold cnt
  exact List.countP_pos_iff.2 ⟨s, List.mem_of_getElem? h, by simp⟩
theorem cnt_set : ∀ {st : List Nat} {n s : Nat} (h : st[n]? = some s) (k j : Nat), cnt (st.set n k) j + (if s = j then 1 else 0) = cnt st j + (if k = j then 1 else 0)
  | [], n, s, h, k, j => by simp at h
  | x :: l, 0, s, h, k, j => by
    simp at h
    subst h
    simp only [cnt, List.set_cons_zero, List.countP_cons, beq_iff_eq]
    omega
  | x :: l, n + 1, s, h, k, j => by
    have ih := cnt_set (st := l) (n := n) (s := s) (by simpa using h) k j
    simp only [cnt, List.set_cons_succ, List.countP_cons, beq_iff_eq] at *
    omega
theorem cnts_set {st : List Nat} {n s k : Nat} (h : st[n]? = some s) (hs : s ≤ 5) (hk : k ≤ 5) :
    ((cnts st).set s (.int .i64 ((cnt st s : Int) - 1))).set k (.int .i64 (((if k = s then (cnt st s : Int) - 1 else (cnt st k : Int))) + 1)) = cnts (st.set n k) := by
  have hp := cnt_pos h
  have e : ∀ j, cnt (st.set n k) j + (if s = j then 1 else 0) = cnt st j + (if k = j then 1 else 0) := cnt_set h k
  have e0 := e 0; have e1 := e 1; have e2 := e 2; have e3 := e 3; have e4 := e 4; have e5 := e 5
  have hs' : s = 0 ∨ s = 1 ∨ s = 2 ∨ s = 3 ∨ s = 4 ∨ s = 5 := by omega
  have hk' : k = 0 ∨ k = 1 ∨ k = 2 ∨ k = 3 ∨ k = 4 ∨ k = 5 := by omega
  rcases hs' with rfl | rfl | rfl | rfl | rfl | rfl <;> rcases hk' with rfl | rfl | rfl | rfl | rfl | rfl <;>
    simp only [cnts, List.set_cons_zero, List.set_cons_succ, List.cons.injEq, Value.int.injEq, true_and, and_true, if_true, if_false, reduceIte, Nat.reduceEqDiff] at * <;> omega

/-- The waiting messages that satisfy a condition leave the queue: what stays, and the states. -/
def dropF {α : Type} (n : α → Nat) (p : α → Bool) (k : Nat) : List α → List Nat → List α × List Nat
  | [], st => ([], st)
  | x :: l, st => if st[n x]? = some 1 ∧ p x = true then dropF n p k l (st.set (n x) k) else (x :: (dropF n p k l st).1, (dropF n p k l st).2)
theorem dropF_append {α : Type} (n : α → Nat) (p : α → Bool) (k : Nat) : ∀ (a b : List α) (st : List Nat),
    dropF n p k (a ++ b) st = ((dropF n p k a st).1 ++ (dropF n p k b (dropF n p k a st).2).1, (dropF n p k b (dropF n p k a st).2).2)
  | [], b, st => by simp [dropF]
  | x :: a, b, st => by
    have ih := dropF_append n p k a b
    simp only [List.cons_append, dropF]
    split
    · exact ih _
    · simp [ih]
theorem dropF_map {α β : Type} (g : α → β) (n : β → Nat) (p : β → Bool) (k : Nat) : ∀ (l : List α) (st : List Nat),
    dropF n p k (l.map g) st = ((dropF (fun x => n (g x)) (fun x => p (g x)) k l st).1.map g, (dropF (fun x => n (g x)) (fun x => p (g x)) k l st).2)
  | [], st => rfl
  | x :: l, st => by
    have ih := dropF_map g n p k l
    simp only [List.map_cons, dropF]
    split
    · exact ih _
    · simp [ih]
theorem dropF_sub {α : Type} (n : α → Nat) (p : α → Bool) (k : Nat) : ∀ (l : List α) (st : List Nat), (dropF n p k l st).1.Sublist l
  | [], st => List.Sublist.slnil
  | x :: l, st => by
    simp only [dropF]
    split
    · exact (dropF_sub n p k l _).cons _
    · exact (dropF_sub n p k l _).cons_cons _
theorem dropF_len {α : Type} (n : α → Nat) (p : α → Bool) (k : Nat) : ∀ (l : List α) (st : List Nat), (dropF n p k l st).2.length = st.length
  | [], st => rfl
  | x :: l, st => by
    simp only [dropF]
    split
    · rw [dropF_len]; simp
    · exact dropF_len n p k l _
/-- Nothing goes: nothing changes. -/
theorem dropF_none {α : Type} (n : α → Nat) (p : α → Bool) (k : Nat) : ∀ (l : List α) (st : List Nat), (∀ x ∈ l, ¬ (st[n x]? = some 1 ∧ p x = true)) → dropF n p k l st = (l, st)
  | [], st, _ => rfl
  | x :: l, st, h => by
    simp only [dropF]
    rw [if_neg (h x (by simp)), dropF_none n p k l st fun y hy => h y (by simp [hy])]
/-- The message behind. -/
def Msg.dropped (p : Int → Nat → Bool) (k : Nat) (i : Nat) (m : Msg) : Msg := if m.st = 1 ∧ p m.dl i = true then { m with st := k } else m
def dropM (p : Int → Nat → Bool) (k : Nat) : Nat → List Msg → List Msg
  | _, [] => []
  | i, m :: l => m.dropped p k i :: dropM p k (i + 1) l
theorem dropM_len (p : Int → Nat → Bool) (k : Nat) : ∀ (i : Nat) (l : List Msg), (dropM p k i l).length = l.length
  | _, [] => rfl
  | i, m :: l => by simp [dropM, dropM_len p k (i + 1) l]
theorem dropM_get (p : Int → Nat → Bool) (k : Nat) : ∀ (i : Nat) (l : List Msg) (j : Nat), (dropM p k i l)[j]? = (l[j]?).map (Msg.dropped p k (i + j))
  | _, [], j => by simp [dropM]
  | i, m :: l, 0 => by simp [dropM]
  | i, m :: l, j + 1 => by
    simp only [dropM, List.getElem?_cons_succ]
    rw [dropM_get p k (i + 1) l j, show i + 1 + j = i + (j + 1) by omega]
theorem set_pre {α : Type} (a : List α) (x y : α) (b : List α) : (a ++ x :: b).set a.length y = a ++ y :: b := by
  rw [List.set_append_right _ _ (Nat.le_refl _), Nat.sub_self]; rfl
theorem dropF_queue (p : Int → Nat → Bool) (k : Nat) (hk : 2 < k) : ∀ (ms : List Msg) (pre : List Nat),
    dropF (fun x : Nat × Int × List Int => x.1) (fun x => p x.2.1 x.1) k (queueL pre.length ms) (pre ++ ms.map Msg.st) = (queueL pre.length (dropM p k pre.length ms), pre ++ (dropM p k pre.length ms).map Msg.st)
  | [], pre => rfl
  | m :: l, pre => by
    have ih := dropF_queue p k hk l (pre ++ [(m.dropped p k pre.length).st])
    simp only [List.length_append, List.length_singleton, List.append_assoc, List.singleton_append] at ih
    have hget : (pre ++ (m :: l).map Msg.st)[pre.length]? = some m.st := by simp
    simp only [dropM, List.map_cons]
    unfold queueL
    by_cases ho : m.st ≤ 2
    · rw [if_pos ho]
      simp only [dropF]
      by_cases hd : m.st = 1 ∧ p m.dl pre.length = true
      · have e : m.dropped p k pre.length = { m with st := k } := by unfold Msg.dropped; rw [if_pos hd]
        rw [e] at ih ⊢
        rw [if_pos (by simp [hd]), set_pre, if_neg (by simp; omega)]
        exact ih
      · have e : m.dropped p k pre.length = m := by unfold Msg.dropped; rw [if_neg hd]
        rw [e] at ih ⊢
        rw [if_neg (by simpa using hd), if_pos ho, ih]
    · have e : m.dropped p k pre.length = m := by unfold Msg.dropped; rw [if_neg (by omega)]
      rw [e] at ih ⊢
      rw [if_neg ho, if_neg ho]
      exact ih

/-- The next bytes: at most b of the messages from number i on. -/
def Msg.take (m : Msg) (i b : Nat) : Msg := if min (m.rest i).length b = 0 then m else if min (m.rest i).length b = (m.rest i).length then { m with st := 3, out := m.out + min (m.rest i).length b } else { m with st := 2, out := m.out + min (m.rest i).length b }
def sendL : Nat → List Msg → Nat → List Msg × List Int
  | _, [], _ => ([], [])
  | i, m :: l, b => if m.st ≤ 2 then
      (m.take i b :: (sendL (i + 1) l (b - min (m.rest i).length b)).1, (m.rest i).take b ++ (sendL (i + 1) l (b - min (m.rest i).length b)).2)
    else (m :: (sendL (i + 1) l b).1, (sendL (i + 1) l b).2)
theorem sendL_cons (i : Nat) (m : Msg) (l : List Msg) (b : Nat) : sendL i (m :: l) b = if m.st ≤ 2 then
      (m.take i b :: (sendL (i + 1) l (b - min (m.rest i).length b)).1, (m.rest i).take b ++ (sendL (i + 1) l (b - min (m.rest i).length b)).2)
    else (m :: (sendL (i + 1) l b).1, (sendL (i + 1) l b).2) := rfl
theorem sendL_zero : ∀ (i : Nat) (l : List Msg), sendL i l 0 = (l, [])
  | _, [] => rfl
  | i, m :: l => by
    have ih := sendL_zero (i + 1) l
    unfold sendL
    split
    · simp [ih, Msg.take]
    · simp [ih]
theorem sendL_le : ∀ (i : Nat) (l : List Msg) (b : Nat), (sendL i l b).2.length ≤ b
  | _, [], b => by simp [sendL]
  | i, m :: l, b => by
    unfold sendL
    split
    · have := sendL_le (i + 1) l (b - min (m.rest i).length b)
      simp only [List.length_append, List.length_take]
      omega
    · exact sendL_le (i + 1) l b
theorem sendL_len : ∀ (i : Nat) (l : List Msg) (b : Nat), (sendL i l b).1.length = l.length
  | _, [], b => rfl
  | i, m :: l, b => by
    unfold sendL
    split <;> simp [sendL_len (i + 1) l]
theorem sendL_append : ∀ (i : Nat) (a c : List Msg) (b : Nat),
    sendL i (a ++ c) b = ((sendL i a b).1 ++ (sendL (i + a.length) c (b - (sendL i a b).2.length)).1, (sendL i a b).2 ++ (sendL (i + a.length) c (b - (sendL i a b).2.length)).2)
  | i, [], c, b => by simp [sendL]
  | i, m :: a, c, b => by
    have ih := fun b => sendL_append (i + 1) a c b
    rw [List.cons_append, List.length_cons, show i + (a.length + 1) = i + 1 + a.length by omega, sendL_cons, sendL_cons]
    split
    · rw [ih]
      have e : b - ((m.rest i).take b ++ (sendL (i + 1) a (b - min (m.rest i).length b)).2).length = b - min (m.rest i).length b - (sendL (i + 1) a (b - min (m.rest i).length b)).2.length := by
        rw [List.length_append, List.length_take]; omega
      simp only [e, List.cons_append, List.append_assoc]
    · rw [ih]; simp only [List.cons_append]
theorem sendL_closed : ∀ (i : Nat) (a : List Msg) (b : Nat), (∀ m ∈ a, 2 < m.st) → sendL i a b = (a, [])
  | i, [], b, _ => rfl
  | i, m :: a, b, h => by
    unfold sendL
    rw [if_neg (by have := h m (by simp); omega), sendL_closed (i + 1) a b fun x hx => h x (by simp [hx])]
/-- One step: the first open message is handed out as far as there is room. -/
theorem sendL_step (i : Nat) (a : List Msg) (m : Msg) (c : List Msg) (b : Nat) (ha : ∀ x ∈ a, 2 < x.st) (hm : m.st ≤ 2) (hr : 1 ≤ (m.rest (i + a.length)).length) :
    sendL i (a ++ m :: c) b =
      ((sendL i (a ++ m.take (i + a.length) b :: c) (b - min (m.rest (i + a.length)).length b)).1,
       (m.rest (i + a.length)).take b ++ (sendL i (a ++ m.take (i + a.length) b :: c) (b - min (m.rest (i + a.length)).length b)).2) := by
  rw [sendL_append, sendL_closed i a _ ha]
  simp only [List.length_nil, Nat.sub_zero, List.nil_append]
  conv => lhs; rw [sendL, if_pos hm]
  by_cases h : b < (m.rest (i + a.length)).length
  · have e : b - min (m.rest (i + a.length)).length b = 0 := by omega
    rw [e, sendL_zero, sendL_zero]
  · have e : min (m.rest (i + a.length)).length b = (m.rest (i + a.length)).length := by omega
    have e3 : (m.take (i + a.length) b).st = 3 := by unfold Msg.take; rw [if_neg (by omega), if_pos e]
    rw [sendL_append, sendL_closed i a _ ha]
    simp only [List.length_nil, Nat.sub_zero, List.nil_append]
    conv => rhs; rw [sendL, if_neg (by omega)]
end Go.Proofs.Ytjljjohoipnhhaa
