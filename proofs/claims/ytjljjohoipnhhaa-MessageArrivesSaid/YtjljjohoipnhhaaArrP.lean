/-
  Plain laws for MessageArrives: the bytes that left a box, and what a gate makes of them.
-/
import Derived.Test.YtjljjohoipnhhaaMsgT
import Derived.Test.YtjljjohoipnhhaaCutsP
namespace Go.Proofs.Ytjljjohoipnhhaa
open Go.RowKit
set_option linter.unusedVariables false

structure OutOk (m : Msg) : Prop where
  ok : MsgOk m
  s3 : m.st = 3 → m.out = m.data.length + 5
  s4 : 4 ≤ m.st → m.out = 0
/-- Behind the first open message nothing was handed out. -/
def ordO : List Msg → Prop
  | [] => True
  | m :: l => if m.st ≤ 2 then ∀ x ∈ l, x.out = 0 else ordO l
theorem ordO_zero : ∀ {l : List Msg}, (∀ x ∈ l, x.out = 0) → ordO l
  | [], _ => trivial
  | m :: l, h => by
    unfold ordO
    split
    · exact fun x hx => h x (by simp [hx])
    · exact ordO_zero fun x hx => h x (by simp [hx])
/-- The bytes that left. -/
def strmM : Nat → List Msg → List Int
  | _, [] => []
  | i, m :: l => (form i m.data).take m.out ++ strmM (i + 1) l
theorem strmM_zero : ∀ (i : Nat) {l : List Msg}, (∀ x ∈ l, x.out = 0) → strmM i l = []
  | _, [], _ => rfl
  | i, m :: l, h => by
    unfold strmM
    rw [h m (by simp), strmM_zero (i + 1) fun x hx => h x (by simp [hx])]
    rfl
theorem strmM_append : ∀ (i : Nat) (a b : List Msg), strmM i (a ++ b) = strmM i a ++ strmM (i + a.length) b
  | i, [], b => rfl
  | i, m :: a, b => by
    have ih := strmM_append (i + 1) a b
    show (form i m.data).take m.out ++ strmM (i + 1) (a ++ b) = ((form i m.data).take m.out ++ strmM (i + 1) a) ++ strmM (i + (a.length + 1)) b
    rw [ih, List.append_assoc, show i + 1 + a.length = i + (a.length + 1) by omega]
def sentL : List Msg → List (List Int)
  | [] => []
  | m :: l => if m.st = 3 then m.data :: sentL l else sentL l
def lastS : Nat → List Msg → Int → Int
  | _, [], last => last
  | i, m :: l, last => lastS (i + 1) l (if m.st = 3 then (i : Int) else last)
theorem sentL_zero : ∀ {l : List Msg}, (∀ x ∈ l, x.st ≠ 3) → sentL l = []
  | [], _ => rfl
  | m :: l, h => by
    unfold sentL
    rw [if_neg (h m (by simp)), sentL_zero fun x hx => h x (by simp [hx])]
theorem lastS_zero : ∀ (i : Nat) {l : List Msg} (last : Int), (∀ x ∈ l, x.st ≠ 3) → lastS i l last = last
  | _, [], _, _ => rfl
  | i, m :: l, last, h => by
    unfold lastS
    rw [if_neg (h m (by simp)), lastS_zero (i + 1) last fun x hx => h x (by simp [hx])]
theorem zero_no3 {l : List Msg} (ok : ∀ m ∈ l, OutOk m) (h : ∀ x ∈ l, x.out = 0) : ∀ x ∈ l, x.st ≠ 3 := by
  intro x hx e
  have h1 := (ok x hx).s3 e
  have h2 := h x hx
  omega
/-- What a gate makes of the bytes that left. -/
theorem gate_strmM : ∀ (i : Nat) (ms : List Msg) (last : Int), (∀ m ∈ ms, OutOk m) → ordO ms → i + ms.length ≤ 1000000 → last < i →
    (gate (strmM i ms) last).out = sentL ms ∧ (gate (strmM i ms) last).last = lastS i ms last ∧ (gate (strmM i ms) last).bad = false
  | i, [], last, _, _, _, _ => ⟨rfl, rfl, rfl⟩
  | i, m :: l, last, ok, ho, hi, hl => by
    have hm := ok m (by simp)
    have okl : ∀ x ∈ l, OutOk x := fun x hx => ok x (by simp [hx])
    simp only [List.length_cons] at hi
    unfold ordO at ho
    by_cases h2 : m.st ≤ 2
    · rw [if_pos h2] at ho
      have e1 : strmM i (m :: l) = (form i m.data).take m.out := by
        show _ ++ strmM (i + 1) l = _
        rw [strmM_zero (i + 1) ho, List.append_nil]
      have h3 := zero_no3 okl ho
      rw [e1, gate_cut i m.data last hm.ok.d1 hm.ok.d2 (by omega) hl m.out (hm.ok.s h2)]
      refine ⟨?_, ?_, rfl⟩
      · unfold sentL; rw [if_neg (by omega), sentL_zero h3]
      · unfold lastS; rw [if_neg (by omega), lastS_zero _ _ h3]
    · rw [if_neg h2] at ho
      by_cases h3 : m.st = 3
      · have e1 : strmM i (m :: l) = form i m.data ++ strmM (i + 1) l := by
          show (form i m.data).take m.out ++ _ = _
          rw [List.take_of_length_le (by rw [form_len, hm.s3 h3]; exact Nat.le_refl _)]
        obtain ⟨g1, g2, g3⟩ := gate_strmM (i + 1) l i okl ho (by omega) (by omega)
        rw [e1, gate_form i m.data _ last hm.ok.d1 hm.ok.d2 (by omega) hl]
        unfold sentL lastS
        rw [if_pos h3, if_pos h3]
        exact ⟨by rw [g1], g2, g3⟩
      · have e1 : strmM i (m :: l) = strmM (i + 1) l := by
          show (form i m.data).take m.out ++ _ = _
          rw [hm.s4 (by omega)]
          rfl
        obtain ⟨g1, g2, g3⟩ := gate_strmM (i + 1) l last okl ho (by omega) (by omega)
        rw [e1]
        unfold sentL lastS
        rw [if_neg h3, if_neg h3]
        exact ⟨g1, g2, g3⟩
theorem OutOk.take {m : Msg} (h : OutOk m) (hm : m.st ≤ 2) (i b : Nat) : OutOk (m.take i b) := by
  have h1 := MsgOk.take h.ok hm i b
  have hr := rest_len m i
  have hs := h.ok.s hm
  refine ⟨h1, ?_, ?_⟩
  · unfold Msg.take
    split
    · intro e; omega
    · split
      · intro _; show m.out + min (m.rest i).length b = m.data.length + 5; omega
      · intro e; exact absurd (show (2 : Nat) = 3 from e) (by decide)
  · unfold Msg.take
    split
    · intro e; omega
    · split
      · intro e; exact absurd (show 4 ≤ 3 from e) (by decide)
      · intro e; exact absurd (show 4 ≤ 2 from e) (by decide)
theorem send_strm : ∀ (i : Nat) (l : List Msg) (b : Nat), (∀ m ∈ l, OutOk m) → ordO l →
    strmM i (sendL i l b).1 = strmM i l ++ (sendL i l b).2 ∧ ordO (sendL i l b).1 ∧ ∀ m ∈ (sendL i l b).1, OutOk m
  | i, [], b, _, _ => ⟨rfl, trivial, fun m hm => by cases hm⟩
  | i, m :: l, b, ok, ho => by
    have hm := ok m (by simp)
    have okl : ∀ x ∈ l, OutOk x := fun x hx => ok x (by simp [hx])
    unfold ordO at ho
    rw [sendL_cons]
    by_cases h2 : m.st ≤ 2
    · rw [if_pos h2] at ho
      rw [if_pos h2]
      have hz := strmM_zero (i + 1) ho
      have hr := rest_len m i
      have hs := hm.ok.s h2
      by_cases hb : b < (m.rest i).length
      · have e : b - min (m.rest i).length b = 0 := by omega
        rw [e, sendL_zero]
        have ot : (m.take i b).out = m.out + b ∧ (m.take i b).data = m.data ∧ (m.take i b).st ≤ 2 := by
          unfold Msg.take
          split
          · exact ⟨by omega, rfl, h2⟩
          · rw [if_neg (by omega)]
            exact ⟨by show m.out + min (m.rest i).length b = _; omega, rfl, Nat.le_refl _⟩
        obtain ⟨o1, o2, o3⟩ := ot
        refine ⟨?_, ?_, ?_⟩
        · show (form i (m.take i b).data).take (m.take i b).out ++ strmM (i + 1) l = ((form i m.data).take m.out ++ strmM (i + 1) l) ++ ((m.rest i).take b ++ [])
          rw [o1, o2, hz, List.append_nil, List.append_nil, List.append_nil, List.take_add]
          rfl
        · show ordO (m.take i b :: l)
          unfold ordO
          rw [if_pos o3]
          exact ho
        · intro x hx
          rcases List.mem_cons.1 hx with rfl | hx
          · exact hm.take h2 i b
          · exact okl x hx
      · obtain ⟨g1, g2, g3⟩ := send_strm (i + 1) l (b - min (m.rest i).length b) okl (ordO_zero ho)
        have ot : (m.take i b).out = m.data.length + 5 ∧ (m.take i b).data = m.data ∧ (m.take i b).st = 3 := by
          unfold Msg.take
          rw [if_neg (by omega), if_pos (by omega)]
          exact ⟨by show m.out + min (m.rest i).length b = _; omega, rfl, rfl⟩
        obtain ⟨o1, o2, o3⟩ := ot
        refine ⟨?_, ?_, ?_⟩
        · show (form i (m.take i b).data).take (m.take i b).out ++ strmM (i + 1) (sendL (i + 1) l (b - min (m.rest i).length b)).1 = ((form i m.data).take m.out ++ strmM (i + 1) l) ++ ((m.rest i).take b ++ (sendL (i + 1) l (b - min (m.rest i).length b)).2)
          rw [o1, o2, g1, hz, List.nil_append, List.append_nil, List.take_of_length_le (by rw [form_len]; exact Nat.le_refl _), List.take_of_length_le (l := m.rest i) (by omega), ← List.append_assoc]
          unfold Msg.rest
          rw [List.take_append_drop]
        · show ordO (m.take i b :: _)
          unfold ordO
          rw [if_neg (by omega)]
          exact g2
        · intro x hx
          rcases List.mem_cons.1 hx with rfl | hx
          · exact hm.take h2 i b
          · exact g3 x hx
    · rw [if_neg h2] at ho
      rw [if_neg h2]
      obtain ⟨g1, g2, g3⟩ := send_strm (i + 1) l b okl ho
      refine ⟨?_, ?_, ?_⟩
      · show (form i m.data).take m.out ++ strmM (i + 1) (sendL (i + 1) l b).1 = ((form i m.data).take m.out ++ strmM (i + 1) l) ++ (sendL (i + 1) l b).2
        rw [g1, List.append_assoc]
      · show ordO (m :: _)
        unfold ordO
        rw [if_neg h2]
        exact g2
      · intro x hx
        rcases List.mem_cons.1 hx with rfl | hx
        · exact hm
        · exact g3 x hx
theorem drop_strm (p : Int → Nat → Bool) (k : Nat) (hk : 4 ≤ k) (hk5 : k ≤ 5) : ∀ (i : Nat) (l : List Msg), (∀ m ∈ l, OutOk m) → ordO l →
    strmM i (dropM p k i l) = strmM i l ∧ ordO (dropM p k i l) ∧ (∀ m ∈ dropM p k i l, OutOk m) ∧ ((∀ x ∈ l, x.out = 0) → ∀ x ∈ dropM p k i l, x.out = 0)
  | i, [], _, _ => ⟨rfl, trivial, (fun m hm => by cases hm), fun _ m hm => by cases hm⟩
  | i, m :: l, ok, ho => by
    have hm := ok m (by simp)
    have okl : ∀ x ∈ l, OutOk x := fun x hx => ok x (by simp [hx])
    have hol : ordO l := by
      unfold ordO at ho
      split at ho
      · exact ordO_zero ho
      · exact ho
    obtain ⟨g1, g2, g3, g4⟩ := drop_strm p k hk hk5 (i + 1) l okl hol
    have hd : (m.dropped p k i).data = m.data ∧ (m.dropped p k i).out = m.out := by unfold Msg.dropped; split <;> exact ⟨rfl, rfl⟩
    have hok : OutOk (m.dropped p k i) := by
      unfold Msg.dropped
      split
      · rename_i h
        have h0 := hm.ok.w h.1
        exact ⟨⟨hm.ok.d1, hm.ok.d2, hm.ok.dl, (by show 1 ≤ k; omega), hk5, (fun e => by have : k = 1 := e; omega), (fun e => by have : k ≤ 2 := e; omega)⟩, (fun e => by have : k = 3 := e; omega), fun _ => h0⟩
      · exact hm
    refine ⟨?_, ?_, ?_, ?_⟩
    · show (form i (m.dropped p k i).data).take (m.dropped p k i).out ++ strmM (i + 1) (dropM p k (i + 1) l) = (form i m.data).take m.out ++ strmM (i + 1) l
      rw [hd.1, hd.2, g1]
    · show ordO (m.dropped p k i :: dropM p k (i + 1) l)
      unfold ordO
      split
      · rename_i h2
        have hm2 : m.st ≤ 2 := by
          unfold Msg.dropped at h2
          split at h2
          · have : k ≤ 2 := h2; omega
          · exact h2
        unfold ordO at ho
        rw [if_pos hm2] at ho
        exact g4 ho
      · exact g2
    · intro x hx
      rcases List.mem_cons.1 hx with rfl | hx
      · exact hok
      · exact g3 x hx
    · intro h0 x hx
      rcases List.mem_cons.1 hx with rfl | hx
      · rw [hd.2]; exact h0 m (by simp)
      · exact g4 (fun y hy => h0 y (by simp [hy])) x hx
theorem ordO_append : ∀ {l : List Msg} {m : Msg}, ordO l → m.out = 0 → ordO (l ++ [m])
  | [], m, _, h => by
    show ordO [m]
    unfold ordO
    split
    · intro x hx; cases hx
    · trivial
  | y :: l, m, hl, h => by
    rw [List.cons_append]
    unfold ordO at hl ⊢
    split
    · rename_i hy
      rw [if_pos hy] at hl
      intro x hx
      rcases List.mem_append.1 hx with hx | hx
      · exact hl x hx
      · obtain rfl := List.mem_singleton.1 hx
        exact h
    · rename_i hy
      rw [if_neg hy] at hl
      exact ordO_append hl h
/-- What holds between the operations. -/
structure AInv (ms : List Msg) : Prop where
  ok : ∀ m ∈ ms, OutOk m
  ord : ordO ms
theorem AInv.nil : AInv [] := ⟨(fun m hm => by cases hm), trivial⟩
theorem AInv.mok {ms : List Msg} (h : AInv ms) : ∀ m ∈ ms, MsgOk m := fun m hm => (h.ok m hm).ok
theorem AInv.put {ms : List Msg} (h : AInv ms) (room : Int) (data : List Int) (dl : Int) : AInv (putM ms room data dl) ∧ strmM 0 (putM ms room data dl) = strmM 0 ms := by
  unfold putM
  by_cases hb : putBad data dl = true
  · rw [if_pos hb]; exact ⟨h, rfl⟩
  · rw [if_neg hb]
    have hb' : 1 ≤ data.length ∧ data.length ≤ 1000 ∧ -1 ≤ dl := by
      unfold putBad at hb
      simp only [Bool.or_eq_true, decide_eq_true_eq] at hb
      omega
    by_cases hr : room ≤ (openN ms : Int)
    · rw [if_pos hr]; exact ⟨h, rfl⟩
    · rw [if_neg hr]
      refine ⟨⟨?_, ordO_append h.ord rfl⟩, ?_⟩
      · intro m hm
        rcases List.mem_append.1 hm with hm | hm
        · exact h.ok m hm
        · obtain rfl := List.mem_singleton.1 hm
          exact ⟨⟨hb'.1, hb'.2.1, hb'.2.2, Nat.le_refl _, (by show 1 ≤ 5; omega), (fun _ => rfl), fun _ => (by show 0 < data.length + 5; omega)⟩, (fun e => absurd (show (1 : Nat) = 3 from e) (by decide)), fun e => absurd (show 4 ≤ 1 from e) (by decide)⟩
      · rw [strmM_append]
        show strmM 0 ms ++ ((form (0 + ms.length) data).take 0 ++ []) = _
        simp
theorem AInv.cancel {ms : List Msg} (h : AInv ms) (n : Int) : AInv (cancelM ms n) ∧ strmM 0 (cancelM ms n) = strmM 0 ms := by
  unfold cancelM
  split
  · obtain ⟨g1, g2, g3, _⟩ := drop_strm (pCancel n.toNat) 4 (by decide) (by decide) 0 ms h.ok h.ord
    exact ⟨⟨g3, g2⟩, g1⟩
  · exact ⟨h, rfl⟩
theorem AInv.next {ms : List Msg} (h : AInv ms) (tick most : Int) : AInv (nextM ms tick most) ∧ strmM 0 (nextM ms tick most) = strmM 0 ms ++ nextW ms tick most := by
  obtain ⟨g1, g2, g3, _⟩ := drop_strm (pNext tick) 5 (by decide) (by decide) 0 ms h.ok h.ord
  obtain ⟨k1, k2, k3⟩ := send_strm 0 (dropM (pNext tick) 5 0 ms) most.toNat g3 g2
  rw [g1] at k1
  exact ⟨⟨k3, k2⟩, k1⟩
theorem strmM_len : ∀ (i : Nat) (l : List Msg), (∀ m ∈ l, OutOk m) → (strmM i l).length ≤ l.length * 1005
  | _, [], _ => by simp [strmM]
  | i, m :: l, h => by
    have ih := strmM_len (i + 1) l fun x hx => h x (by simp [hx])
    have hd := (h m (by simp)).ok.d2
    show ((form i m.data).take m.out ++ strmM (i + 1) l).length ≤ (l.length + 1) * 1005
    rw [List.length_append, List.length_take, form_len]
    omega
theorem sentL_len : ∀ (l : List Msg), (sentL l).length = cnt (l.map Msg.st) 3
  | [] => rfl
  | m :: l => by
    have ih := sentL_len l
    have e : cnt ((m :: l).map Msg.st) 3 = cnt (l.map Msg.st) 3 + (if m.st = 3 then 1 else 0) := by
      simp only [cnt, List.map_cons, List.countP_cons, beq_iff_eq]
    rw [e]
    unfold sentL
    by_cases h : m.st = 3
    · rw [if_pos h, if_pos h, List.length_cons, ih]
    · rw [if_neg h, if_neg h, ih, Nat.add_zero]
theorem sentL_append : ∀ (a b : List Msg), sentL (a ++ b) = sentL a ++ sentL b
  | [], b => rfl
  | m :: a, b => by
    have ih := sentL_append a b
    show (if m.st = 3 then m.data :: sentL (a ++ b) else sentL (a ++ b)) = (if m.st = 3 then m.data :: sentL a else sentL a) ++ sentL b
    rw [ih]
    split <;> rfl
theorem lastS_append : ∀ (i : Nat) (a b : List Msg) (last : Int), lastS i (a ++ b) last = lastS (i + a.length) b (lastS i a last)
  | i, [], b, last => rfl
  | i, m :: a, b, last => by
    have ih := lastS_append (i + 1) a b (if m.st = 3 then (i : Int) else last)
    show lastS (i + 1) (a ++ b) _ = lastS (i + (a.length + 1)) b (lastS (i + 1) a _)
    rw [ih, show i + 1 + a.length = i + (a.length + 1) by omega]
theorem lastS_bd : ∀ (i : Nat) (l : List Msg) (last : Int), -1 ≤ last → last < i → -1 ≤ lastS i l last ∧ lastS i l last < ((i + l.length : Nat) : Int)
  | i, [], last, h1, h2 => ⟨h1, by show last < _; simpa using h2⟩
  | i, m :: l, last, h1, h2 => by
    obtain ⟨g1, g2⟩ := lastS_bd (i + 1) l (if m.st = 3 then (i : Int) else last) (by split <;> omega) (by split <;> omega)
    refine ⟨g1, ?_⟩
    show lastS (i + 1) l _ < _
    rw [List.length_cons, show i + (l.length + 1) = i + 1 + l.length by omega]
    exact g2
end Go.Proofs.Ytjljjohoipnhhaa
