/-
  Plain laws: the messages of a box, without a program.
  The memory of message.Box, and how a message's state changes.
  The closures of message.Box that let waiting messages leave the queue.
-/
import Derived.Test.YtkaaoomliepijaaGreatQVw
import Derived.Test.YtkaaoomliepijaaGreatQSlices
import Derived.RegionTactic
import Derived.Deep.DeepCutAuto
namespace Go.Proofs.YtkaaoomliepijaaGreat
open Go.RowKit
set_option linter.unusedVariables false

/-- A message: its data, its deadline, its state, and how many bytes of its form are out. -/
structure Msg where
  data : List Int
  dl : Int
  st : Nat
  out : Nat
  deriving Inhabited
def form (i : Nat) (d : List Int) : List Int :=
  ((d.length / 256 : Nat) : Int) :: ((d.length % 256 : Nat) : Int) :: ((i / 65536 : Nat) : Int) :: ((i / 256 % 256 : Nat) : Int) :: ((i % 256 : Nat) : Int) :: d
theorem form_len (i : Nat) (d : List Int) : (form i d).length = d.length + 5 := rfl
def Msg.rest (m : Msg) (i : Nat) : List Int := (form i m.data).drop m.out
theorem rest_len (m : Msg) (i : Nat) : (m.rest i).length = m.data.length + 5 - m.out := by unfold Msg.rest; rw [List.length_drop, form_len]

/-- What the queue holds of the messages from number i on: number, deadline, bytes. -/
def queueL : Nat → List Msg → List (Nat × Int × List Int)
  | _, [] => []
  | i, m :: l => if m.st ≤ 2 then (i, m.dl, m.rest i) :: queueL (i + 1) l else queueL (i + 1) l
def openN (ms : List Msg) : Nat := (ms.filter fun m => decide (m.st ≤ 2)).length
theorem queueL_len : ∀ (i : Nat) (ms : List Msg), (queueL i ms).length = openN ms
  | _, [] => rfl
  | i, m :: l => by
    have := queueL_len (i + 1) l
    unfold queueL openN
    unfold openN at this
    by_cases h : m.st ≤ 2 <;> simp [h, this]
theorem queueL_ge : ∀ (i : Nat) (ms : List Msg) (x : Nat × Int × List Int), x ∈ queueL i ms → i ≤ x.1 ∧ x.1 < i + ms.length
  | _, [], x, h => by simp [queueL] at h
  | i, m :: l, x, h => by
    have ih := queueL_ge (i + 1) l x
    unfold queueL at h
    simp only [List.length_cons]
    split at h
    · rcases List.mem_cons.1 h with rfl | h
      · exact ⟨Nat.le_refl _, by omega⟩
      · have := ih h; omega
    · have := ih h; omega
theorem queueL_cons (i : Nat) (m : Msg) (l : List Msg) : queueL i (m :: l) = if m.st ≤ 2 then (i, m.dl, m.rest i) :: queueL (i + 1) l else queueL (i + 1) l := rfl
theorem queueL_append : ∀ (i : Nat) (a b : List Msg), queueL i (a ++ b) = queueL i a ++ queueL (i + a.length) b
  | i, [], b => by simp [queueL]
  | i, m :: a, b => by
    have ih := queueL_append (i + 1) a b
    rw [List.cons_append, List.length_cons, show i + (a.length + 1) = i + 1 + a.length by omega, queueL_cons, queueL_cons, ih]
    split <;> simp
theorem openN_append (a b : List Msg) : openN (a ++ b) = openN a + openN b := by unfold openN; rw [List.filter_append, List.length_append]

/-- What holds of the messages of a box. -/
structure MsgOk (m : Msg) : Prop where
  d1 : 1 ≤ m.data.length
  d2 : m.data.length ≤ 1000
  dl : -1 ≤ m.dl
  s1 : 1 ≤ m.st
  s5 : m.st ≤ 5
  w : m.st = 1 → m.out = 0
  s : m.st ≤ 2 → m.out < m.data.length + 5
def MsOk (ms : List Msg) : Prop := (∀ m ∈ ms, MsgOk m) ∧ ms.length ≤ 1000

/-- How many states are k. -/
def cnt (st : List Nat) (k : Nat) : Nat := st.countP fun s => s == k
def cnts (st : List Nat) : List Value := [.int .i64 (cnt st 0), .int .i64 (cnt st 1), .int .i64 (cnt st 2), .int .i64 (cnt st 3), .int .i64 (cnt st 4), .int .i64 (cnt st 5)]
theorem cnts_get (st : List Nat) {k : Nat} (h : k ≤ 5) : (cnts st)[k]? = some (.int .i64 (cnt st k)) := by
  have : k = 0 ∨ k = 1 ∨ k = 2 ∨ k = 3 ∨ k = 4 ∨ k = 5 := by omega
  rcases this with rfl | rfl | rfl | rfl | rfl | rfl <;> rfl
theorem cnt_le (st : List Nat) (k : Nat) : cnt st k ≤ st.length := List.countP_le_length
theorem cnt_append (a b : List Nat) (k : Nat) : cnt (a ++ b) k = cnt a k + cnt b k := by unfold cnt; rw [List.countP_append]
theorem cnt_pos {st : List Nat} {n s : Nat} (h : st[n]? = some s) : 1 ≤ cnt st s := by
  unfold cnt
  exact List.countP_pos_iff.2 ⟨s, List.mem_of_getElem? h, by simp⟩
theorem cnt_set : ∀ {st : List Nat} {n s : Nat} (h : st[n]? = some s) (k j : Nat), cnt (st.set n k) j + (if s = j then 1 else 0) = cnt st j + (if k = j then 1 else 0)
  | [], n, s, h, k, j => by simp at h
  | x :: l, 0, s, h, k, j => by
    simp at h
    subst h
    simp only [cnt, List.set_cons_zero, List.countP_cons, beq_iff_eq]
    omega
  | x :: l, n + 1, s, h, k, j => by
    have ih := cnt_set (st := l) (n := n) (s := s) (by simpa using h) k j
    simp only [cnt, List.set_cons_succ, List.countP_cons, beq_iff_eq] at *
    omega
theorem cnts_set {st : List Nat} {n s k : Nat} (h : st[n]? = some s) (hs : s ≤ 5) (hk : k ≤ 5) :
    ((cnts st).set s (.int .i64 ((cnt st s : Int) - 1))).set k (.int .i64 (((if k = s then (cnt st s : Int) - 1 else (cnt st k : Int))) + 1)) = cnts (st.set n k) := by
  have hp := cnt_pos h
  have e : ∀ j, cnt (st.set n k) j + (if s = j then 1 else 0) = cnt st j + (if k = j then 1 else 0) := cnt_set h k
  have e0 := e 0; have e1 := e 1; have e2 := e 2; have e3 := e 3; have e4 := e 4; have e5 := e 5
  have hs' : s = 0 ∨ s = 1 ∨ s = 2 ∨ s = 3 ∨ s = 4 ∨ s = 5 := by omega
  have hk' : k = 0 ∨ k = 1 ∨ k = 2 ∨ k = 3 ∨ k = 4 ∨ k = 5 := by omega
  rcases hs' with rfl | rfl | rfl | rfl | rfl | rfl <;> rcases hk' with rfl | rfl | rfl | rfl | rfl | rfl <;>
    simp only [cnts, List.set_cons_zero, List.set_cons_succ, List.cons.injEq, Value.int.injEq, true_and, and_true, if_true, if_false, reduceIte, Nat.reduceEqDiff] at * <;> omega

/-- The waiting messages that satisfy a condition leave the queue: what stays, and the states. -/
def dropF {α : Type} (n : α → Nat) (p : α → Bool) (k : Nat) : List α → List Nat → List α × List Nat
  | [], st => ([], st)
  | x :: l, st => if st[n x]? = some 1 ∧ p x = true then dropF n p k l (st.set (n x) k) else (x :: (dropF n p k l st).1, (dropF n p k l st).2)
theorem dropF_append {α : Type} (n : α → Nat) (p : α → Bool) (k : Nat) : ∀ (a b : List α) (st : List Nat),
    dropF n p k (a ++ b) st = ((dropF n p k a st).1 ++ (dropF n p k b (dropF n p k a st).2).1, (dropF n p k b (dropF n p k a st).2).2)
  | [], b, st => by simp [dropF]
  | x :: a, b, st => by
    have ih := dropF_append n p k a b
    simp only [List.cons_append, dropF]
    split
    · exact ih _
    · simp [ih]
theorem dropF_map {α β : Type} (g : α → β) (n : β → Nat) (p : β → Bool) (k : Nat) : ∀ (l : List α) (st : List Nat),
    dropF n p k (l.map g) st = ((dropF (fun x => n (g x)) (fun x => p (g x)) k l st).1.map g, (dropF (fun x => n (g x)) (fun x => p (g x)) k l st).2)
  | [], st => rfl
  | x :: l, st => by
    have ih := dropF_map g n p k l
    simp only [List.map_cons, dropF]
    split
    · exact ih _
    · simp [ih]
theorem dropF_sub {α : Type} (n : α → Nat) (p : α → Bool) (k : Nat) : ∀ (l : List α) (st : List Nat), (dropF n p k l st).1.Sublist l
  | [], st => List.Sublist.slnil
  | x :: l, st => by
    simp only [dropF]
    split
    · exact (dropF_sub n p k l _).cons _
    · exact (dropF_sub n p k l _).cons_cons _
theorem dropF_len {α : Type} (n : α → Nat) (p : α → Bool) (k : Nat) : ∀ (l : List α) (st : List Nat), (dropF n p k l st).2.length = st.length
  | [], st => rfl
  | x :: l, st => by
    simp only [dropF]
    split
    · rw [dropF_len]; simp
    · exact dropF_len n p k l _
/-- Nothing goes: nothing changes. -/
theorem dropF_none {α : Type} (n : α → Nat) (p : α → Bool) (k : Nat) : ∀ (l : List α) (st : List Nat), (∀ x ∈ l, ¬ (st[n x]? = some 1 ∧ p x = true)) → dropF n p k l st = (l, st)
  | [], st, _ => rfl
  | x :: l, st, h => by
    simp only [dropF]
    rw [if_neg (h x (by simp)), dropF_none n p k l st fun y hy => h y (by simp [hy])]
/-- The message behind. -/
def Msg.dropped (p : Int → Nat → Bool) (k : Nat) (i : Nat) (m : Msg) : Msg := if m.st = 1 ∧ p m.dl i = true then { m with st := k } else m
def dropM (p : Int → Nat → Bool) (k : Nat) : Nat → List Msg → List Msg
  | _, [] => []
  | i, m :: l => m.dropped p k i :: dropM p k (i + 1) l
theorem dropM_len (p : Int → Nat → Bool) (k : Nat) : ∀ (i : Nat) (l : List Msg), (dropM p k i l).length = l.length
  | _, [] => rfl
  | i, m :: l => by simp [dropM, dropM_len p k (i + 1) l]
theorem dropM_get (p : Int → Nat → Bool) (k : Nat) : ∀ (i : Nat) (l : List Msg) (j : Nat), (dropM p k i l)[j]? = (l[j]?).map (Msg.dropped p k (i + j))
  | _, [], j => by simp [dropM]
  | i, m :: l, 0 => by simp [dropM]
  | i, m :: l, j + 1 => by
    simp only [dropM, List.getElem?_cons_succ]
    rw [dropM_get p k (i + 1) l j, show i + 1 + j = i + (j + 1) by omega]
theorem set_pre {α : Type} (a : List α) (x y : α) (b : List α) : (a ++ x :: b).set a.length y = a ++ y :: b := by
  rw [List.set_append_right _ _ (Nat.le_refl _), Nat.sub_self]; rfl
theorem dropF_queue (p : Int → Nat → Bool) (k : Nat) (hk : 2 < k) : ∀ (ms : List Msg) (pre : List Nat),
    dropF (fun x : Nat × Int × List Int => x.1) (fun x => p x.2.1 x.1) k (queueL pre.length ms) (pre ++ ms.map Msg.st) = (queueL pre.length (dropM p k pre.length ms), pre ++ (dropM p k pre.length ms).map Msg.st)
  | [], pre => rfl
  | m :: l, pre => by
    have ih := dropF_queue p k hk l (pre ++ [(m.dropped p k pre.length).st])
    simp only [List.length_append, List.length_singleton, List.append_assoc, List.singleton_append] at ih
    have hget : (pre ++ (m :: l).map Msg.st)[pre.length]? = some m.st := by simp
    simp only [dropM, List.map_cons]
    unfold queueL
    by_cases ho : m.st ≤ 2
    · rw [if_pos ho]
      simp only [dropF]
      by_cases hd : m.st = 1 ∧ p m.dl pre.length = true
      · have e : m.dropped p k pre.length = { m with st := k } := by unfold Msg.dropped; rw [if_pos hd]
        rw [e] at ih ⊢
        rw [if_pos (by simp [hd]), set_pre, if_neg (by simp; omega)]
        exact ih
      · have e : m.dropped p k pre.length = m := by unfold Msg.dropped; rw [if_neg hd]
        rw [e] at ih ⊢
        rw [if_neg (by simpa using hd), if_pos ho, ih]
    · have e : m.dropped p k pre.length = m := by unfold Msg.dropped; rw [if_neg (by omega)]
      rw [e] at ih ⊢
      rw [if_neg ho, if_neg ho]
      exact ih

/-- The next bytes: at most b of the messages from number i on. -/
def Msg.take (m : Msg) (i b : Nat) : Msg := if min (m.rest i).length b = 0 then m else if min (m.rest i).length b = (m.rest i).length then { m with st := 3, out := m.out + min (m.rest i).length b } else { m with st := 2, out := m.out + min (m.rest i).length b }
def sendL : Nat → List Msg → Nat → List Msg × List Int
  | _, [], _ => ([], [])
  | i, m :: l, b => if m.st ≤ 2 then
      (m.take i b :: (sendL (i + 1) l (b - min (m.rest i).length b)).1, (m.rest i).take b ++ (sendL (i + 1) l (b - min (m.rest i).length b)).2)
    else (m :: (sendL (i + 1) l b).1, (sendL (i + 1) l b).2)
theorem sendL_cons (i : Nat) (m : Msg) (l : List Msg) (b : Nat) : sendL i (m :: l) b = if m.st ≤ 2 then
      (m.take i b :: (sendL (i + 1) l (b - min (m.rest i).length b)).1, (m.rest i).take b ++ (sendL (i + 1) l (b - min (m.rest i).length b)).2)
    else (m :: (sendL (i + 1) l b).1, (sendL (i + 1) l b).2) := rfl
theorem sendL_zero : ∀ (i : Nat) (l : List Msg), sendL i l 0 = (l, [])
  | _, [] => rfl
  | i, m :: l => by
    have ih := sendL_zero (i + 1) l
    unfold sendL
    split
    · simp [ih, Msg.take]
    · simp [ih]
theorem sendL_le : ∀ (i : Nat) (l : List Msg) (b : Nat), (sendL i l b).2.length ≤ b
  | _, [], b => by simp [sendL]
  | i, m :: l, b => by
    unfold sendL
    split
    · have := sendL_le (i + 1) l (b - min (m.rest i).length b)
      simp only [List.length_append, List.length_take]
      omega
    · exact sendL_le (i + 1) l b
theorem sendL_len : ∀ (i : Nat) (l : List Msg) (b : Nat), (sendL i l b).1.length = l.length
  | _, [], b => rfl
  | i, m :: l, b => by
    unfold sendL
    split <;> simp [sendL_len (i + 1) l]
theorem sendL_append : ∀ (i : Nat) (a c : List Msg) (b : Nat),
    sendL i (a ++ c) b = ((sendL i a b).1 ++ (sendL (i + a.length) c (b - (sendL i a b).2.length)).1, (sendL i a b).2 ++ (sendL (i + a.length) c (b - (sendL i a b).2.length)).2)
  | i, [], c, b => by simp [sendL]
  | i, m :: a, c, b => by
    have ih := fun b => sendL_append (i + 1) a c b
    rw [List.cons_append, List.length_cons, show i + (a.length + 1) = i + 1 + a.length by omega, sendL_cons, sendL_cons]
    split
    · rw [ih]
      have e : b - ((m.rest i).take b ++ (sendL (i + 1) a (b - min (m.rest i).length b)).2).length = b - min (m.rest i).length b - (sendL (i + 1) a (b - min (m.rest i).length b)).2.length := by
        rw [List.length_append, List.length_take]; omega
      simp only [e, List.cons_append, List.append_assoc]
    · rw [ih]; simp only [List.cons_append]
theorem sendL_closed : ∀ (i : Nat) (a : List Msg) (b : Nat), (∀ m ∈ a, 2 < m.st) → sendL i a b = (a, [])
  | i, [], b, _ => rfl
  | i, m :: a, b, h => by
    unfold sendL
    rw [if_neg (by have := h m (by simp); omega), sendL_closed (i + 1) a b fun x hx => h x (by simp [hx])]
/-- One step: the first open message is handed out as far as there is room. -/
theorem sendL_step (i : Nat) (a : List Msg) (m : Msg) (c : List Msg) (b : Nat) (ha : ∀ x ∈ a, 2 < x.st) (hm : m.st ≤ 2) (hr : 1 ≤ (m.rest (i + a.length)).length) :
    sendL i (a ++ m :: c) b =
      ((sendL i (a ++ m.take (i + a.length) b :: c) (b - min (m.rest (i + a.length)).length b)).1,
       (m.rest (i + a.length)).take b ++ (sendL i (a ++ m.take (i + a.length) b :: c) (b - min (m.rest (i + a.length)).length b)).2) := by
  rw [sendL_append, sendL_closed i a _ ha]
  simp only [List.length_nil, Nat.sub_zero, List.nil_append]
  conv => lhs; rw [sendL, if_pos hm]
  by_cases h : b < (m.rest (i + a.length)).length
  · have e : b - min (m.rest (i + a.length)).length b = 0 := by omega
    rw [e, sendL_zero, sendL_zero]
  · have e : min (m.rest (i + a.length)).length b = (m.rest (i + a.length)).length := by omega
    have e3 : (m.take (i + a.length) b).st = 3 := by unfold Msg.take; rw [if_neg (by omega), if_pos e]
    rw [sendL_append, sendL_closed i a _ ha]
    simp only [List.length_nil, Nat.sub_zero, List.nil_append]
    conv => rhs; rw [sendL, if_neg (by omega)]
end Go.Proofs.YtkaaoomliepijaaGreat
namespace Go.Proofs.YtkaaoomliepijaaGreat
open Go.RowKit
set_option linter.unusedVariables false

theorem Tryz.infoItP : (Tryz.prog.info? 111).map (fun i => (i.zero, i.size, i.bytes)) = some (some (.pointer none), 1, 8) := by kernel_rfl

/-- An open message in memory. -/
structure It where
  n : Nat
  dl : Int
  rest : List Int
  b : Nat
  rv : Value
def It.ptr (x : It) : Value := .pointer (some ⟨x.b, 0, none⟩)
def It.foot (x : It) : List Nat := x.b :: x.rv.ownBlock.toList
def It.key (x : It) : Nat × Int × List Int := (x.n, x.dl, x.rest)
def itFoot (its : List It) : List Nat := its.flatMap It.foot
def boxFoot (b : Nat) (qv sv : Value) (its : List It) : List Nat := b :: (qv.ownBlock.toList ++ (sv.ownBlock.toList ++ itFoot its))
def stV (s : Nat) : Value := .int .u8 (s : Int)

structure ItAt (w : World) (base : Nat) (x : It) : Prop where
  hb : Blk w x.b 113 [.int .i64 x.n, .int .i64 x.dl, x.rv]
  hr : Vw (Value.int .u8) 5 w base x.rv x.rest
  hx : base ≤ x.b
/-- All but the queue's row. -/
structure BoxR (w : World) (base b : Nat) (room : Int) (qv sv : Value) (its : List It) (st : List Nat) : Prop where
  hb : Blk w b 82 (.int .i64 room :: qv :: sv :: cnts st)
  hs : Vw stV 5 w base sv st
  hi : ∀ x ∈ its, ItAt w base x
  hbb : base ≤ b
  nd : (boxFoot b qv sv its).Nodup
structure BoxAt (w : World) (base b : Nat) (room : Int) (qv sv : Value) (its : List It) (st : List Nat) : Prop where
  r : BoxR w base b room qv sv its st
  q : Vw It.ptr 111 w base qv its

section
variable {w w' : World} {base b : Nat} {room : Int} {qv sv : Value} {its : List It} {st : List Nat} {S : Nat → Prop}
theorem ItAt.upd {x : It} (h : ItAt w base x) (u : Upd S w w') (hs : ∀ k ∈ x.foot, ¬ S k) : ItAt w' base x :=
  ⟨h.hb.upd u (hs _ (by simp [It.foot])), h.hr.upd u fun g hg => hs _ (by simp [It.foot, hg]), h.hx⟩
theorem ItAt.lt {x : It} (h : ItAt w base x) {k : Nat} (hk : k ∈ x.foot) : base ≤ k ∧ k < w.heap.size := by
  unfold It.foot at hk
  rcases List.mem_cons.1 hk with rfl | hk
  · exact ⟨h.hx, h.hb.lt⟩
  · exact h.hr.lt (by simpa using hk)
theorem mem_itFoot {k : Nat} (hk : k ∈ itFoot its) : ∃ x ∈ its, k ∈ x.foot := List.mem_flatMap.1 hk
theorem in_itFoot {k : Nat} {x : It} (hx : x ∈ its) (hk : k ∈ x.foot) : k ∈ itFoot its := List.mem_flatMap.2 ⟨x, hx, hk⟩
theorem in_boxFoot {k : Nat} (h : k = b ∨ qv.ownBlock = some k ∨ sv.ownBlock = some k ∨ k ∈ itFoot its) : k ∈ boxFoot b qv sv its := by
  unfold boxFoot
  simp only [List.mem_cons, List.mem_append, Option.mem_toList, Option.mem_def]
  exact h
theorem of_boxFoot {k : Nat} (h : k ∈ boxFoot b qv sv its) : k = b ∨ qv.ownBlock = some k ∨ sv.ownBlock = some k ∨ k ∈ itFoot its := by
  unfold boxFoot at h
  simpa only [List.mem_cons, List.mem_append, Option.mem_toList, Option.mem_def] using h
theorem BoxR.upd (h : BoxR w base b room qv sv its st) (u : Upd S w w') (hs : ∀ k ∈ boxFoot b qv sv its, ¬ S k) : BoxR w' base b room qv sv its st :=
  ⟨h.hb.upd u (hs _ (in_boxFoot (.inl rfl))), h.hs.upd u fun g hg => hs _ (in_boxFoot (.inr (.inr (.inl hg)))), fun x hx => (h.hi x hx).upd u fun k hk => hs _ (in_boxFoot (.inr (.inr (.inr (in_itFoot hx hk))))), h.hbb, h.nd⟩
theorem BoxR.below (h : BoxR w base b room qv sv its st) (q : Below w.heap.size w w') : BoxR w' base b room qv sv its st := h.upd (S := fun _ => False) (Upd.of_below q) fun _ _ => id
theorem BoxAt.upd (h : BoxAt w base b room qv sv its st) (u : Upd S w w') (hs : ∀ k ∈ boxFoot b qv sv its, ¬ S k) : BoxAt w' base b room qv sv its st :=
  ⟨h.r.upd u hs, h.q.upd u fun g hg => hs _ (in_boxFoot (.inr (.inl hg)))⟩
theorem BoxAt.below (h : BoxAt w base b room qv sv its st) (q : Below w.heap.size w w') : BoxAt w' base b room qv sv its st := h.upd (S := fun _ => False) (Upd.of_below q) fun _ _ => id
theorem BoxAt.lt (h : BoxAt w base b room qv sv its st) {k : Nat} (hk : k ∈ boxFoot b qv sv its) : base ≤ k ∧ k < w.heap.size := by
  rcases of_boxFoot hk with rfl | hk | hk | hk
  · exact ⟨h.r.hbb, h.r.hb.lt⟩
  · exact h.q.lt hk
  · exact h.r.hs.lt hk
  · obtain ⟨x, hx, hk⟩ := mem_itFoot hk
    exact (h.r.hi x hx).lt hk
/-- What the footprint's parts have not in common. -/
structure Parts (b : Nat) (qv sv : Value) (its : List It) : Prop where
  bq : ∀ k, qv.ownBlock = some k → k ≠ b
  bs : ∀ k, sv.ownBlock = some k → k ≠ b
  bi : b ∉ itFoot its
  qs : ∀ k, qv.ownBlock = some k → sv.ownBlock ≠ some k
  qi : ∀ k, qv.ownBlock = some k → k ∉ itFoot its
  si : ∀ k, sv.ownBlock = some k → k ∉ itFoot its
  ii : (itFoot its).Nodup
theorem opt_nodup (o : Option Nat) : o.toList.Nodup := by cases o <;> simp
theorem nodup_parts (h : (boxFoot b qv sv its).Nodup) : Parts b qv sv its := by
  unfold boxFoot at h
  simp only [List.nodup_cons, List.nodup_append, List.mem_append, Option.mem_toList, Option.mem_def, not_or] at h
  obtain ⟨⟨h1, h2, h3⟩, _, ⟨_, h4, h5⟩, h6⟩ := h
  exact ⟨fun k hk e => h1 (by rw [← e]; exact hk), fun k hk e => h2 (by rw [← e]; exact hk), h3, fun k hk e => h6 k hk k (.inl e) rfl, fun k hk e => h6 k hk k (.inr e) rfl, fun k hk e => h5 k hk k e rfl, h4⟩
theorem parts_nodup (h : Parts b qv sv its) : (boxFoot b qv sv its).Nodup := by
  unfold boxFoot
  simp only [List.nodup_cons, List.nodup_append, List.mem_append, Option.mem_toList, Option.mem_def, not_or]
  refine ⟨⟨fun e => h.bq b e rfl, fun e => h.bs b e rfl, h.bi⟩, opt_nodup _, ⟨opt_nodup _, h.ii, ?_⟩, ?_⟩
  · rintro k hk j hj rfl; exact h.si k hk hj
  · rintro k hk j hj rfl
    rcases hj with hj | hj
    · exact h.qs k hk hj
    · exact h.qi k hk hj
theorem itFoot_cons (x : It) (l : List It) : itFoot (x :: l) = x.foot ++ itFoot l := rfl
theorem itFoot_append (l m : List It) : itFoot (l ++ m) = itFoot l ++ itFoot m := by simp [itFoot]
theorem itFoot_sub {l m : List It} (h : l.Sublist m) : (itFoot l).Sublist (itFoot m) := by
  induction h with
  | slnil => exact List.Sublist.refl _
  | cons a _ ih => rw [itFoot_cons]; exact ih.trans (List.sublist_append_right _ _)
  | cons_cons a _ ih => rw [itFoot_cons, itFoot_cons]; exact List.Sublist.append (List.Sublist.refl _) ih
/-- Fewer messages. -/
theorem Parts.sub {l : List It} (h : Parts b qv sv its) (hl : l.Sublist its) : Parts b qv sv l :=
  ⟨h.bq, h.bs, fun e => h.bi ((itFoot_sub hl).subset e), h.qs, fun k hk e => h.qi k hk ((itFoot_sub hl).subset e), fun k hk e => h.si k hk ((itFoot_sub hl).subset e), h.ii.sublist (itFoot_sub hl)⟩
/-- A part is exchanged for one in the same block or a new one. -/
theorem Parts.q' {qv' : Value} (h : Parts b qv sv its) (hq : ∀ k, qv'.ownBlock = some k → qv.ownBlock = some k ∨ k ∉ boxFoot b qv sv its) : Parts b qv' sv its := by
  refine ⟨fun k hk => ?_, h.bs, h.bi, fun k hk => ?_, fun k hk => ?_, h.si, h.ii⟩
  · rcases hq k hk with h1 | h1
    · exact h.bq k h1
    · exact fun e => h1 (in_boxFoot (.inl e))
  · rcases hq k hk with h1 | h1
    · exact h.qs k h1
    · exact fun e => h1 (in_boxFoot (.inr (.inr (.inl e))))
  · rcases hq k hk with h1 | h1
    · exact h.qi k h1
    · exact fun e => h1 (in_boxFoot (.inr (.inr (.inr e))))
theorem Parts.s' {sv' : Value} (h : Parts b qv sv its) (hq : ∀ k, sv'.ownBlock = some k → sv.ownBlock = some k ∨ k ∉ boxFoot b qv sv its) : Parts b qv sv' its := by
  refine ⟨h.bq, fun k hk => ?_, h.bi, fun k hk hs => ?_, h.qi, fun k hk => ?_, h.ii⟩
  · rcases hq k hk with h1 | h1
    · exact h.bs k h1
    · exact fun e => h1 (in_boxFoot (.inl e))
  · rcases hq k hs with h1 | h1
    · exact h.qs k hk h1
    · exact h1 (in_boxFoot (.inr (.inl hk)))
  · rcases hq k hk with h1 | h1
    · exact h.si k h1
    · exact fun e => h1 (in_boxFoot (.inr (.inr (.inr e))))
end

/-- The blocks that a change of a state writes. -/
def chS (b : Nat) (sv : Value) (k : Nat) : Prop := k = b ∨ sv.ownBlock = some k
theorem stV_map {w : World} {base : Nat} {sv : Value} {st : List Nat} (h : Vw stV 5 w base sv st) {n s : Nat} (hn : st[n]? = some s) : ∃ a c, sv = .slice a st.length c ∧ okAd a = true ∧ w.cell? (adr a n) = some (.int .u8 (s : Int)) ∧ w.frozen? (adr a n) = false ∧ sv.ownBlock = some (adr a n).block := by
  obtain ⟨a, c, rfl⟩ := h.shape
  obtain ⟨h1, h2⟩ := h.sl n s hn
  refine ⟨a, c, rfl, h1, h2, h.free (get_lt hn), ?_⟩
  cases a with
  | none => simp [okAd] at h1
  | some x => rfl
theorem BoxR.change {w : World} {base b : Nat} {room : Int} {qv sv : Value} {its : List It} {st : List Nat} (h : BoxR w base b room qv sv its st) {n s k : Nat} (hn : st[n]? = some s) (hs : s ≤ 5) (hk : k ≤ 5) {a : Option Addr} {m c : Nat} (hsv : sv = .slice a m c) :
    BoxR (((w.setCell ⟨b, 3 + s, none⟩ (.int .i64 ((cnt st s : Int) - 1))).setCell (adr a n) (.int .u8 (k : Int))).setCell ⟨b, 3 + k, none⟩ (.int .i64 ((if k = s then (cnt st s : Int) - 1 else (cnt st k : Int)) + 1))) base b room qv sv its (st.set n k) ∧
    Upd (chS b sv) w (((w.setCell ⟨b, 3 + s, none⟩ (.int .i64 ((cnt st s : Int) - 1))).setCell (adr a n) (.int .u8 (k : Int))).setCell ⟨b, 3 + k, none⟩ (.int .i64 ((if k = s then (cnt st s : Int) - 1 else (cnt st k : Int)) + 1))) := by
  have P := nodup_parts h.nd
  obtain ⟨a', c', e, h1, h2, h3, h4⟩ := stV_map h.hs hn
  rw [hsv] at e
  cases e
  have hbs : (adr a n).block ≠ b := P.bs _ h4
  have hne : b ≠ (adr a n).block := fun e => hbs e.symm
  have u1 : Upd (chS b sv) w (w.setCell ⟨b, 3 + s, none⟩ (.int .i64 ((cnt st s : Int) - 1))) := (Upd.refl _ w).setCell _ _ fun _ => .inl rfl
  have u2 := u1.setCell (adr a n) (.int .u8 (k : Int)) fun _ => .inr h4
  have u3 := u2.setCell ⟨b, 3 + k, none⟩ (.int .i64 ((if k = s then (cnt st s : Int) - 1 else (cnt st k : Int)) + 1)) fun _ => .inl rfl
  refine ⟨⟨?_, ?_, ?_, h.hbb, h.nd⟩, u3⟩
  · have hb := ((h.hb.set (3 + s) (.int .i64 ((cnt st s : Int) - 1))).setO (a := adr a n) (.int .u8 (k : Int)) hne).set (3 + k) (.int .i64 ((if k = s then (cnt st s : Int) - 1 else (cnt st k : Int)) + 1))
    rw [← cnts_set hn hs hk]
    have e3 : ∀ (x y z : Value) (l : List Value) (i : Nat) (v : Value), (x :: y :: z :: l).set (3 + i) v = x :: y :: z :: l.set i v := by
      intro x y z l i v
      rw [show 3 + i = i + 1 + 1 + 1 by omega]
      simp
    rw [e3, e3] at hb
    exact hb
  · subst hsv
    have v1 : Vw stV 5 (w.setCell ⟨b, 3 + s, none⟩ (.int .i64 ((cnt st s : Int) - 1))) base (.slice a st.length c) st := h.hs.upd (S := fun j => j = b) ((Upd.refl _ w).setCell _ _ fun _ => rfl) fun g hg e => P.bs g hg e
    have v2 : Vw stV 5 ((w.setCell ⟨b, 3 + s, none⟩ (.int .i64 ((cnt st s : Int) - 1))).setCell (adr a n) (.int .u8 (k : Int))) base (.slice a st.length c) (st.set n k) := v1.set (get_lt hn) k
    exact v2.upd (S := fun j => j = b) ((Upd.refl _ _).setCell _ _ fun _ => rfl) fun g hg e => P.bs g hg e
  · intro x hx
    refine (h.hi x hx).upd u3 fun j hj hS => ?_
    rcases hS with rfl | hS
    · exact P.bi (in_itFoot hx hj)
    · exact P.si j hS (in_itFoot hx hj)

theorem BoxR.change_mid {w : World} {base b : Nat} {room : Int} {qv sv : Value} {its : List It} {st : List Nat} (h : BoxR w base b room qv sv its st) {n s k : Nat} (hn : st[n]? = some s) (hs : s ≤ 5) (hk : k ≤ 5) {a : Option Addr} {m c : Nat} (hsv : sv = .slice a m c) :
    ((w.setCell ⟨b, 3 + s, none⟩ (.int .i64 ((cnt st s : Int) - 1))).setCell (adr a n) (.int .u8 (k : Int))).cell? ⟨b, 3 + k, none⟩ = some (.int .i64 (if k = s then (cnt st s : Int) - 1 else (cnt st k : Int))) ∧
    ((w.setCell ⟨b, 3 + s, none⟩ (.int .i64 ((cnt st s : Int) - 1))).setCell (adr a n) (.int .u8 (k : Int))).frozen? ⟨b, 3 + k, none⟩ = false := by
  obtain ⟨a', c', e, h1, h2, h3, h4⟩ := stV_map h.hs hn
  rw [hsv] at e
  cases e
  have hne : b ≠ (adr a n).block := fun e => (nodup_parts h.nd).bs _ h4 e.symm
  have hb := (h.hb.set (3 + s) (.int .i64 ((cnt st s : Int) - 1))).setO (a := adr a n) (.int .u8 (k : Int)) hne
  refine ⟨hb.cell ?_, hb.free _⟩
  rw [show 3 + s = s + 1 + 1 + 1 by omega, show 3 + k = k + 1 + 1 + 1 by omega]
  simp only [List.set_cons_succ, List.getElem?_cons_succ]
  rw [List.getElem?_set]
  have hl : s < (cnts st).length := by show s < 6; omega
  by_cases e : k = s
  · subst e; simp [hl]
  · rw [if_neg (fun e' => e e'.symm), if_neg e]; exact cnts_get st hk

set_option maxHeartbeats 2000000 in
set_option maxRecDepth 100000 in
theorem change_any (w : World) (base b : Nat) (room : Int) (qv sv : Value) (its : List It) (st : List Nat) (h : BoxR w base b room qv sv its st) (n s k : Nat) (hn : st[n]? = some s) (hs : s ≤ 5) (hk : k ≤ 5) (hl : st.length ≤ 100000) :
    Calls Tryz.prog 51 #[.pointer (some ⟨b, 0, none⟩), .int .i64 n, .int .i64 k] w fun e w' => e = .returned (.tuple #[]) ∧ BoxR w' base b room qv sv its (st.set n k) ∧ Upd (chS b sv) w w' := by
  obtain ⟨a, c, rfl, ha, cs, fs, hown⟩ := stV_map h.hs hn
  have HC := Lib.hid (h.change hn hs hk rfl)
  have HM := Lib.hid (h.change_mid hn hs hk rfl)
  have hb2 := h.hb.cell (i := 2) rfl
  have hbs := h.hb.cell (i := 3 + s) (by rw [show 3 + s = s + 1 + 1 + 1 by omega]; exact cnts_get st hs)
  have hbk := h.hb.cell (i := 3 + k) (by rw [show 3 + k = k + 1 + 1 + 1 by omega]; exact cnts_get st hk)
  have fbs := h.hb.free (3 + s)
  have fbk := h.hb.free (3 + k)
  have c1 := cnt_pos hn
  have c2 := cnt_le st s
  have c3 := cnt_le st k
  have hnl := get_lt hn
  have hne : (adr a n).block ≠ b := (nodup_parts h.nd).bs _ hown
  have i0 : (0 : Int) ≤ (n : Int) := by omega
  have i1 : (n : Int) < (st.length : Int) := by omega
  have s0 : (0 : Int) ≤ (s : Int) := by omega
  have s1 : (s : Int) < 6 := by omega
  have k0 : (0 : Int) ≤ (k : Int) := by omega
  have k1 : (k : Int) < 6 := by omega
  have hv1 : (-1 : Int) ≤ (if k = s then (cnt st s : Int) - 1 else (cnt st k : Int)) := by split <;> omega
  have hv2 : (if k = s then (cnt st s : Int) - 1 else (cnt st k : Int)) ≤ 100000 := by split <;> omega
  generalize (if k = s then (cnt st s : Int) - 1 else (cnt st k : Int)) = v at *
  have cs' : (w.setCell ⟨b, 3 + s, none⟩ (.int .i64 ((cnt st s : Int) - 1))).cell? (adr a n) = some (.int .u8 (s : Int)) := by
    rw [((Upd.refl (fun j => j = b) w).setCell ⟨b, 3 + s, none⟩ _ fun _ => rfl).cell (World.block_lt_of_cell? _ _ cs) hne]; exact cs
  have fs' : (w.setCell ⟨b, 3 + s, none⟩ (.int .i64 ((cnt st s : Int) - 1))).frozen? (adr a n) = false := by
    rw [World.frozen?_of_block (w := w) (((Upd.refl (fun j => j = b) w).setCell ⟨b, 3 + s, none⟩ _ fun _ => rfl).block _ (World.block_lt_of_cell? _ _ cs) hne)]; exact fs
  clear h hn
  go_enter Tryz.func51, Tryz.ntmps51
  go_wp2_with fail
  go_region
  go_wp2_with fail
  have HM1 := HM.out
  have HC1 := HC.out
  clear HM HC hb2 hbs hbk fbs fbk cs fs cs' fs'
  obtain ⟨w2, hw2⟩ : ∃ w2, ((w.setCell ⟨b, 3 + s, none⟩ (.int .i64 ((cnt st s : Int) - 1))).setCell (adr a n) (.int .u8 (k : Int))) = w2 := ⟨_, rfl⟩
  rw [hw2] at HM1 HC1 ⊢
  have HC := Lib.hid HC1
  obtain ⟨g1, g2⟩ := HM1
  clear hw2 HC1
  go_region
  go_end0
  refine ⟨rfl, HC.out.1.below (w' := World.drew (World.drew _)) ?_, HC.out.2.drew.drew⟩
  exact ((Qt.refl _).drew.drew).bel
end Go.Proofs.YtkaaoomliepijaaGreat
namespace Go.Proofs.YtkaaoomliepijaaGreat
open Go.RowKit
set_option linter.unusedVariables false

def pNext (tick : Int) (dl : Int) (n : Nat) : Bool := decide (dl ≠ -1) && decide (dl < tick)
def pCancel (k : Nat) (dl : Int) (n : Nat) : Bool := decide (n = k)

theorem item_cells {w : World} {base : Nat} {x : It} (h : ItAt w base x) : w.cell? ⟨x.b, 0, none⟩ = some (.int .i64 x.n) ∧ w.cell? ⟨x.b, 1, none⟩ = some (.int .i64 x.dl) ∧ w.cell? ⟨x.b, 2, none⟩ = some x.rv :=
  ⟨h.hb.cell rfl, h.hb.cell rfl, h.hb.cell rfl⟩

set_option maxHeartbeats 1000000 in
theorem next1_any (w : World) (base : Nat) (x : It) (tb : Nat) (tick : Int) (h : ItAt w base x) (ht : Blk w tb 3 [.int .i64 tick]) :
    Calls Tryz.prog 50 #[.pointer (some ⟨x.b, 0, none⟩), .pointer (some ⟨tb, 0, none⟩)] w fun e w' => e = .returned (.bool (pNext tick x.dl x.n)) ∧ ∃ n, w' = w.drewN n := by
  obtain ⟨q0, q1, q2⟩ := item_cells h
  have t0 := ht.cell (i := 0) rfl
  unfold pNext
  clear h ht
  generalize x.b = xb at *
  generalize x.dl = dl at *
  by_cases h1 : dl = -1
  · subst h1
    go_enter Tryz.func50, Tryz.ntmps50
    go_wp2_with fail
    go_quiet (fail)
    go_wp2_with fail
    go_ret
    exact ⟨rfl, _, rfl⟩
  · have e1 : (dl != -1) = true := by simpa using h1
    have e2 : decide (dl ≠ -1) = true := by simpa using h1
    rw [e2, Bool.true_and]
    clear h1 e2
    go_enter Tryz.func50, Tryz.ntmps50
    go_wp2_with fail
    go_quiet (fail)
    go_wp2_with fail
    go_ret
    exact ⟨rfl, _, rfl⟩

set_option maxHeartbeats 1000000 in
theorem cancel1_any (w : World) (base : Nat) (x : It) (tb k : Nat) (h : ItAt w base x) (ht : Blk w tb 3 [.int .i64 k]) :
    Calls Tryz.prog 49 #[.pointer (some ⟨x.b, 0, none⟩), .pointer (some ⟨tb, 0, none⟩)] w fun e w' => e = .returned (.bool (pCancel k x.dl x.n)) ∧ ∃ n, w' = w.drewN n := by
  obtain ⟨q0, q1, q2⟩ := item_cells h
  have t0 := ht.cell (i := 0) rfl
  have e : pCancel k x.dl x.n = ((x.n : Int) == (k : Int)) := by
    unfold pCancel
    by_cases h : x.n = k
    · simp [h]
    · rw [beq_eq_false_iff_ne.2 (by omega : (x.n : Int) ≠ (k : Int))]
      simp [h]
  rw [e]
  clear h ht e
  generalize x.b = xb at *
  generalize x.n = n at *
  go_enter Tryz.func49, Tryz.ntmps49
  go_wp2_with fail
  go_quiet (fail)
  go_wp2_with fail
  go_ret
  exact ⟨rfl, _, rfl⟩

/-- The condition that 'drop' is given. -/
def Cnd (w : World) (cv : Value) (tb : Nat) (p : Int → Nat → Bool) : Prop :=
  (∃ tick, cv = .func (.func 50) #[] #[.pointer (some ⟨tb, 0, none⟩)] ∧ Blk w tb 3 [.int .i64 tick] ∧ p = pNext tick) ∨
  (∃ k : Nat, cv = .func (.func 49) #[] #[.pointer (some ⟨tb, 0, none⟩)] ∧ Blk w tb 3 [.int .i64 k] ∧ p = pCancel k)
theorem Cnd.upd {S : Nat → Prop} {w w' : World} {cv : Value} {tb : Nat} {p : Int → Nat → Bool} (h : Cnd w cv tb p) (u : Upd S w w') (hs : ¬ S tb) : Cnd w' cv tb p := by
  rcases h with ⟨t, h1, h2, h3⟩ | ⟨t, h1, h2, h3⟩
  · exact .inl ⟨t, h1, h2.upd u hs, h3⟩
  · exact .inr ⟨t, h1, h2.upd u hs, h3⟩
/-- What the closure of 'drop' has captured: the box, the condition, the state. -/
structure Cap (w : World) (b : Nat) (qv sv : Value) (its : List It) (bc cc sc tb : Nat) (cv : Value) (p : Int → Nat → Bool) (k : Nat) : Prop where
  hb : Blk w bc 26 [.pointer (some ⟨b, 0, none⟩)]
  hc : Blk w cc 114 [cv]
  hs : Blk w sc 3 [.int .i64 k]
  ht : Cnd w cv tb p
  nb : bc ∉ boxFoot b qv sv its
  nc : cc ∉ boxFoot b qv sv its
  ns : sc ∉ boxFoot b qv sv its
  nt : tb ∉ boxFoot b qv sv its
theorem Cap.upd {S : Nat → Prop} {w w' : World} {b : Nat} {qv sv : Value} {its : List It} {bc cc sc tb : Nat} {cv : Value} {p : Int → Nat → Bool} {k : Nat} (h : Cap w b qv sv its bc cc sc tb cv p k) (u : Upd S w w') (hs : ∀ j, S j → j ∈ boxFoot b qv sv its) : Cap w' b qv sv its bc cc sc tb cv p k :=
  ⟨h.hb.upd u fun e => h.nb (hs _ e), h.hc.upd u fun e => h.nc (hs _ e), h.hs.upd u fun e => h.ns (hs _ e), h.ht.upd u fun e => h.nt (hs _ e), h.nb, h.nc, h.ns, h.nt⟩

def delB (p : Int → Nat → Bool) (st : List Nat) (x : It) : Bool := decide (st[x.n]? = some 1 ∧ p x.dl x.n = true)
def delS (p : Int → Nat → Bool) (k : Nat) (st : List Nat) (x : It) : List Nat := if delB p st x = true then st.set x.n k else st
theorem ch_foot {b : Nat} {qv sv : Value} {its : List It} {j : Nat} (h : chS b sv j) : j ∈ boxFoot b qv sv its := by
  rcases h with h | h
  · exact in_boxFoot (.inl h)
  · exact in_boxFoot (.inr (.inr (.inl h)))
def Drop1Post (w : World) (base b : Nat) (room : Int) (qv sv : Value) (its : List It) (st : List Nat) (p : Int → Nat → Bool) (k : Nat) (x : It) (e : Ending) (w' : World) : Prop :=
  e = .returned (.bool (delB p st x)) ∧ BoxR w' base b room qv sv its (delS p k st x) ∧ Upd (chS b sv) w w'

set_option maxHeartbeats 4000000 in
set_option maxRecDepth 100000 in
theorem drop1_any (w : World) (base b : Nat) (room : Int) (qv sv : Value) (its : List It) (st : List Nat) (h : BoxR w base b room qv sv its st) (bc cc sc tb : Nat) (cv : Value) (p : Int → Nat → Bool) (k : Nat) (hk : k ≤ 5)
    (hc : Cap w b qv sv its bc cc sc tb cv p k) (x : It) (hx : x ∈ its) (s : Nat) (hs : st[x.n]? = some s) (hs5 : s ≤ 5) (hl : st.length ≤ 100000) :
    Calls Tryz.prog 74 #[.pointer (some ⟨x.b, 0, none⟩), .pointer (some ⟨bc, 0, none⟩), .pointer (some ⟨cc, 0, none⟩), .pointer (some ⟨sc, 0, none⟩)] w (Drop1Post w base b room qv sv its st p k x) := by
  obtain ⟨q0, q1, q2⟩ := item_cells (h.hi x hx)
  obtain ⟨a, c, rfl, ha, cs, fs, hown⟩ := stV_map h.hs hs
  have hb2 := h.hb.cell (i := 2) rfl
  have c0 := hc.hb.cell (i := 0) rfl
  have c1 := hc.hc.cell (i := 0) rfl
  have c2 := hc.hs.cell (i := 0) rfl
  have hnl := get_lt hs
  have i0 : (0 : Int) ≤ (x.n : Int) := by omega
  have i1 : (x.n : Int) < (st.length : Int) := by omega
  have H := Lib.hid h
  have HC := Lib.hid hc
  have HX := Lib.hid hx
  by_cases h1 : s = 1
  · subst h1
    have CH := fun w' (hR : BoxR w' base b room qv (.slice a st.length c) its st) => change_any w' base b room qv _ its st hR x.n 1 k hs hs5 hk hl
    have CHH := Lib.hid CH
    have HS := Lib.hid hs
    rcases hc.ht with ⟨tick, rfl, ht, hp⟩ | ⟨kk, rfl, ht, hp⟩
    · have CD : Hid (∀ w', Qt w w' → Calls Tryz.prog 50 #[.pointer (some ⟨x.b, 0, none⟩), .pointer (some ⟨tb, 0, none⟩)] w' fun e w2 => e = .returned (.bool (p x.dl x.n)) ∧ ∃ n, w2 = w'.drewN n) :=
        fun w' hq => by rw [hp]; exact next1_any w' base x tb tick ((h.hi x hx).upd (S := fun _ => False) (Upd.of_below hq.bel) fun _ _ => id) (ht.qt hq)
      clear h hc hx hs CH ht hp
      cases hpp : p x.dl x.n with
      | true =>
        have D : Hid (delB p st x = true) := by show _ = _; unfold delB; simp [HS.out, hpp]
        rw [hpp] at CD
        clear hpp HS
        go_enter Tryz.func74, Tryz.ntmps74
        go_wp2_with fail
        go_quiet ((go_at_call 50; exact Calls.quiet_of (CD.out _ ⟨_, rfl⟩)))
        go_wp2_with fail
        have HQ := Lib.hid (H.out.below ((Qt.refl w).drewN nq).bel)
        have QT : Hid (Qt w (w.drewN nq)) := (Qt.refl w).drewN nq
        have c0 := (HC.out.hb.qt QT.out).cell (i := 0) rfl
        have c2 := (HC.out.hs.qt QT.out).cell (i := 0) rfl
        have q0 := (item_cells (HQ.out.hi x HX.out)).1
        generalize w.drewN nq = w2 at *
        have HC2 : Hid (Cap w2.drew b qv (.slice a st.length c) its bc cc sc tb _ p k) := HC.out.upd (S := fun _ => False) (Upd.of_below QT.out.drew.bel) (fun _ h => h.elim)
        go_region_held3 (fun w' => w'.cell? ⟨bc, 0, none⟩ = some (.pointer (some ⟨b, 0, none⟩)) ∧ w'.cell? ⟨x.b, 0, none⟩ = some (.int .i64 x.n) ∧ w'.cell? ⟨sc, 0, none⟩ = some (.int .i64 k))
          (first | exact ⟨c0, q0, c2⟩ | exact ⟨c0', q0', c2'⟩)
          (first | (go_at_call 51; refine (CHH.out _ (HQ.out.below (Qt.drew (Qt.refl _)).bel)).mono ?_; rintro e w3 ⟨rfl, hR, hU⟩; have R3 := Lib.hid hR; have U3 := Lib.hid hU; have c0' := (HC2.out.upd hU (fun _ => ch_foot)).hb.cell (i := 0) rfl; have c2' := (HC2.out.upd hU (fun _ => ch_foot)).hs.cell (i := 0) rfl; have q0' := (item_cells (hR.hi x HX.out)).1; clear hR hU))
        go_wp2_with fail
        go_ret
        exact ⟨by rw [D.out]; rfl, by unfold delS; rw [if_pos D.out]; exact R3.out, Upd.then (Upd.of_below QT.out.drew.bel) U3.out (fun _ _ h => h)⟩
      | false =>
        have D : Hid (delB p st x = false) := by show _ = _; unfold delB; simp [hpp]
        rw [hpp] at CD
        clear CHH HS hpp
        go_enter Tryz.func74, Tryz.ntmps74
        go_wp2_with fail
        go_quiet ((go_at_call 50; exact Calls.quiet_of (CD.out _ ⟨_, rfl⟩)))
        go_wp2_with fail
        go_ret
        exact ⟨by rw [D.out]; rfl, by unfold delS; rw [if_neg (by rw [D.out]; decide)]; exact H.out.below ((Qt.refl w).drewN nq).bel, Upd.of_below ((Qt.refl w).drewN nq).bel⟩
    · have CD : Hid (∀ w', Qt w w' → Calls Tryz.prog 49 #[.pointer (some ⟨x.b, 0, none⟩), .pointer (some ⟨tb, 0, none⟩)] w' fun e w2 => e = .returned (.bool (p x.dl x.n)) ∧ ∃ n, w2 = w'.drewN n) :=
        fun w' hq => by rw [hp]; exact cancel1_any w' base x tb kk ((h.hi x hx).upd (S := fun _ => False) (Upd.of_below hq.bel) fun _ _ => id) (ht.qt hq)
      clear h hc hx hs CH ht hp
      cases hpp : p x.dl x.n with
      | true =>
        have D : Hid (delB p st x = true) := by show _ = _; unfold delB; simp [HS.out, hpp]
        rw [hpp] at CD
        clear hpp HS
        go_enter Tryz.func74, Tryz.ntmps74
        go_wp2_with fail
        go_quiet ((go_at_call 49; exact Calls.quiet_of (CD.out _ ⟨_, rfl⟩)))
        go_wp2_with fail
        have HQ := Lib.hid (H.out.below ((Qt.refl w).drewN nq).bel)
        have QT : Hid (Qt w (w.drewN nq)) := (Qt.refl w).drewN nq
        have c0 := (HC.out.hb.qt QT.out).cell (i := 0) rfl
        have c2 := (HC.out.hs.qt QT.out).cell (i := 0) rfl
        have q0 := (item_cells (HQ.out.hi x HX.out)).1
        generalize w.drewN nq = w2 at *
        have HC2 : Hid (Cap w2.drew b qv (.slice a st.length c) its bc cc sc tb _ p k) := HC.out.upd (S := fun _ => False) (Upd.of_below QT.out.drew.bel) (fun _ h => h.elim)
        go_region_held3 (fun w' => w'.cell? ⟨bc, 0, none⟩ = some (.pointer (some ⟨b, 0, none⟩)) ∧ w'.cell? ⟨x.b, 0, none⟩ = some (.int .i64 x.n) ∧ w'.cell? ⟨sc, 0, none⟩ = some (.int .i64 k))
          (first | exact ⟨c0, q0, c2⟩ | exact ⟨c0', q0', c2'⟩)
          (first | (go_at_call 51; refine (CHH.out _ (HQ.out.below (Qt.drew (Qt.refl _)).bel)).mono ?_; rintro e w3 ⟨rfl, hR, hU⟩; have R3 := Lib.hid hR; have U3 := Lib.hid hU; have c0' := (HC2.out.upd hU (fun _ => ch_foot)).hb.cell (i := 0) rfl; have c2' := (HC2.out.upd hU (fun _ => ch_foot)).hs.cell (i := 0) rfl; have q0' := (item_cells (hR.hi x HX.out)).1; clear hR hU))
        go_wp2_with fail
        go_ret
        exact ⟨by rw [D.out]; rfl, by unfold delS; rw [if_pos D.out]; exact R3.out, Upd.then (Upd.of_below QT.out.drew.bel) U3.out (fun _ _ h => h)⟩
      | false =>
        have D : Hid (delB p st x = false) := by show _ = _; unfold delB; simp [hpp]
        rw [hpp] at CD
        clear CHH HS hpp
        go_enter Tryz.func74, Tryz.ntmps74
        go_wp2_with fail
        go_quiet ((go_at_call 49; exact Calls.quiet_of (CD.out _ ⟨_, rfl⟩)))
        go_wp2_with fail
        go_ret
        exact ⟨by rw [D.out]; rfl, by unfold delS; rw [if_neg (by rw [D.out]; decide)]; exact H.out.below ((Qt.refl w).drewN nq).bel, Upd.of_below ((Qt.refl w).drewN nq).bel⟩
  · have D : Hid (delB p st x = false) := by show _ = _; unfold delB; simp [hs, h1]
    have e1 : ((s : Int) != 1) = true := by
      have : ¬ (s : Int) = 1 := by omega
      simpa using this
    have H1 := Lib.hid h1
    clear h hc hx hs h1
    go_enter Tryz.func74, Tryz.ntmps74
    go_wp2_with fail
    go_quiet (fail)
    go_wp2_with fail
    go_ret
    exact ⟨by rw [D.out]; rfl, by unfold delS; rw [if_neg (by rw [D.out]; decide)]; exact H.out.below ((Qt.refl w).drewN nq).bel, Upd.of_below ((Qt.refl w).drewN nq).bel⟩
end Go.Proofs.YtkaaoomliepijaaGreat
