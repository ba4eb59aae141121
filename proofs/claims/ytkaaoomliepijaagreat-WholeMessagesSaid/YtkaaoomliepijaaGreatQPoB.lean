/-
  The chain's messages, plainly: what is left to send, what came out.
-/
import Derived.Test.YtkaaoomliepijaaGreatQArrP
import Derived.Test.YtkaaoomliepijaaGreatQPoA
namespace Go.Proofs.YtkaaoomliepijaaGreat
open Go.RowKit
set_option linter.unusedVariables false

/-- How many bytes of a message, of a box, are still to be handed out. -/
def restN (m : Msg) : Nat := if m.st ≤ 2 then m.data.length + 5 - m.out else 0
def boxR : List Msg → Nat
  | [] => 0
  | m :: l => restN m + boxR l
theorem boxR_append : ∀ a b, boxR (a ++ b) = boxR a + boxR b
  | [], b => by simp [boxR]
  | m :: a, b => by
    have := boxR_append a b
    simp only [List.cons_append, boxR, this]
    omega
theorem boxR_drop (p : Int → Nat → Bool) (k : Nat) (hk : 2 < k) : ∀ (i : Nat) (l : List Msg), boxR (dropM p k i l) ≤ boxR l
  | _, [] => Nat.le_refl _
  | i, m :: l => by
    have ih := boxR_drop p k hk (i + 1) l
    show restN (m.dropped p k i) + boxR (dropM p k (i + 1) l) ≤ restN m + boxR l
    have : restN (m.dropped p k i) ≤ restN m := by
      unfold Msg.dropped
      split
      · unfold restN
        rw [if_neg (by show ¬ k ≤ 2; omega)]
        exact Nat.zero_le _
      · exact Nat.le_refl _
    omega
theorem boxR_send : ∀ (i : Nat) (l : List Msg) (b : Nat), boxR (sendL i l b).1 + (sendL i l b).2.length = boxR l
  | _, [], _ => rfl
  | i, m :: l, b => by
    rw [sendL_cons]
    by_cases h : m.st ≤ 2
    · rw [if_pos h]
      have ih := boxR_send (i + 1) l (b - min (m.rest i).length b)
      show restN (m.take i b) + boxR _ + ((m.rest i).take b ++ _).length = restN m + boxR l
      rw [List.length_append, List.length_take]
      have hr := rest_len m i
      have e : restN (m.take i b) + min b (m.rest i).length = restN m := by
        unfold Msg.take
        split
        · omega
        · split
          · unfold restN; rw [if_neg (by show ¬ 3 ≤ 2; omega), if_pos h]; omega
          · unfold restN
            rw [if_pos (by show 2 ≤ 2; omega), if_pos h]
            dsimp only
            omega
      omega
    · rw [if_neg h]
      have ih := boxR_send (i + 1) l b
      show restN m + boxR _ + _ = restN m + boxR l
      dsimp only
      omega
theorem send_none : ∀ (i : Nat) (l : List Msg) (b : Nat), (∀ m ∈ l, MsgOk m) → 1 ≤ b → (sendL i l b).2 = [] → boxR (sendL i l b).1 = 0
  | _, [], _, _, _, _ => rfl
  | i, m :: l, b, ok, hb, h => by
    rw [sendL_cons] at h ⊢
    by_cases hm : m.st ≤ 2
    · rw [if_pos hm] at h
      have h1 := rest_pos (ok m (by simp)) hm i
      have h2 := congrArg List.length h
      simp only [List.length_append, List.length_take, List.length_nil] at h2
      omega
    · rw [if_neg hm] at h ⊢
      have ih := send_none (i + 1) l b (fun x hx => ok x (by simp [hx])) hb h
      show restN m + boxR _ = 0
      rw [ih]
      unfold restN
      rw [if_neg hm]
theorem tot_le : ∀ (i : Nat) (l : List Msg), (∀ m ∈ l, OutOk m ∧ m.data.length ≤ 7) → (strmM i l).length + boxR l ≤ 12 * l.length
  | _, [], _ => Nat.le_refl _
  | i, m :: l, h => by
    have ih := tot_le (i + 1) l fun x hx => h x (by simp [hx])
    obtain ⟨h1, h2⟩ := h m (by simp)
    show ((form i m.data).take m.out ++ strmM (i + 1) l).length + (restN m + boxR l) ≤ 12 * (l.length + 1)
    rw [List.length_append, List.length_take, form_len]
    unfold restN
    by_cases c : m.st ≤ 2
    · rw [if_pos c]; have := h1.ok.s c; omega
    · rw [if_neg c]; omega
theorem box_done : ∀ {l : List Msg}, (∀ m ∈ l, MsgOk m) → boxR l = 0 → ∀ m ∈ l, 3 ≤ m.st
  | [], _, _, m, hm => by cases hm
  | y :: l, ok, h, m, hm => by
    have h' : restN y + boxR l = 0 := h
    rcases List.mem_cons.1 hm with rfl | hm
    · rcases Nat.lt_or_ge m.st 3 with c | c
      · have := (ok m (by simp)).s (by omega)
        unfold restN at h'
        rw [if_pos (by omega)] at h'
        omega
      · exact c
    · exact box_done (fun x hx => ok x (by simp [hx])) (by omega) m hm
/-- The messages that began to be handed out. -/
def begL : List Msg → List (List Int)
  | [] => []
  | m :: l => if m.st = 2 ∨ m.st = 3 then m.data :: begL l else begL l
theorem sent_beg : ∀ {l : List Msg}, (∀ m ∈ l, OutOk m) → ordO l → ∃ y, begL l = sentL l ++ y
  | [], _, _ => ⟨[], rfl⟩
  | m :: l, ok, ho => by
    have okl : ∀ x ∈ l, OutOk x := fun x hx => ok x (by simp [hx])
    unfold ordO at ho
    by_cases h2 : m.st ≤ 2
    · rw [if_pos h2] at ho
      have h3 := zero_no3 okl ho
      refine ⟨begL (m :: l), ?_⟩
      have : sentL (m :: l) = [] := by unfold sentL; rw [if_neg (by omega), sentL_zero h3]
      rw [this]; rfl
    · rw [if_neg h2] at ho
      obtain ⟨y, hy⟩ := sent_beg okl ho
      refine ⟨y, ?_⟩
      unfold begL sentL
      by_cases h3 : m.st = 3
      · rw [if_pos (.inr h3), if_pos h3, hy]; rfl
      · rw [if_neg (by omega), if_neg h3, hy]
theorem gate_part (S : List Int) (n : Nat) (hb : (gate S (-1)).bad = false) : (gate (S.take n) (-1)).bad = false ∧ ∃ z, (gate S (-1)).out = (gate (S.take n) (-1)).out ++ z := by
  have h := gate_append (S.take n).length (S.take n) (S.drop n) (-1) (Nat.le_refl _)
  rw [List.take_append_drop] at h
  cases hb2 : (gate (S.take n) (-1)).bad with
  | true =>
    rw [hb2, if_pos rfl] at h
    rw [h] at hb
    cases hb
  | false =>
    rw [hb2, if_neg (by decide)] at h
    exact ⟨rfl, _, by rw [h]⟩
/-- What comes out of a gate that has read a part of the bytes is a beginning of the messages that began. -/
theorem out_pre {ms : List Msg} (A : AInv ms) (hl : ms.length ≤ 1000) (n : Nat) : (gate ((strmM 0 ms).take n) (-1)).bad = false ∧ ∃ z, begL ms = (gate ((strmM 0 ms).take n) (-1)).out ++ z := by
  obtain ⟨g1, g2, g3⟩ := gate_strmM 0 ms (-1) A.ok A.ord (by omega) (by decide)
  obtain ⟨h1, z, h2⟩ := gate_part (strmM 0 ms) n g3
  obtain ⟨y, hy⟩ := sent_beg A.ok A.ord
  refine ⟨h1, z ++ y, ?_⟩
  rw [hy, ← g1, h2, List.append_assoc]
theorem gate_two (S : List Int) (n m : Nat) (hb : (gate S (-1)).bad = false) :
    gate ((gate (S.take n) (-1)).rest ++ (S.drop n).take m) (gate (S.take n) (-1)).last = ⟨(gate ((gate (S.take n) (-1)).rest ++ (S.drop n).take m) (gate (S.take n) (-1)).last).out, (gate (S.take (n + m)) (-1)).rest, (gate (S.take (n + m)) (-1)).last, false⟩ ∧
    (gate (S.take (n + m)) (-1)).out = (gate (S.take n) (-1)).out ++ (gate ((gate (S.take n) (-1)).rest ++ (S.drop n).take m) (gate (S.take n) (-1)).last).out := by
  have h := gate_append (S.take n).length (S.take n) ((S.drop n).take m) (-1) (Nat.le_refl _)
  rw [← List.take_add, if_neg (by rw [(gate_part S n hb).1]; decide)] at h
  have h2 := (gate_part S (n + m) hb).1
  generalize gate ((gate (S.take n) (-1)).rest ++ (S.drop n).take m) (gate (S.take n) (-1)).last = g at *
  rw [h] at h2
  rw [h]
  exact ⟨by rw [← h2], rfl⟩
/-- A message's bytes: its number, one to seven times. -/
def dat (i : Nat) : List Int := List.replicate (1 + i % 7) (i : Int)
theorem dropM_dat (p : Int → Nat → Bool) (k : Nat) : ∀ (i : Nat) (l : List Msg), (dropM p k i l).map Msg.data = l.map Msg.data
  | _, [] => rfl
  | i, m :: l => by
    show (m.dropped p k i).data :: (dropM p k (i + 1) l).map Msg.data = m.data :: l.map Msg.data
    rw [dropM_dat p k (i + 1) l]
    unfold Msg.dropped
    split <;> rfl
theorem sendL_dat : ∀ (i : Nat) (l : List Msg) (b : Nat), (sendL i l b).1.map Msg.data = l.map Msg.data
  | _, [], _ => rfl
  | i, m :: l, b => by
    rw [sendL_cons]
    split
    · show (m.take i b).data :: (sendL (i + 1) l _).1.map Msg.data = m.data :: l.map Msg.data
      rw [sendL_dat (i + 1) l]
      unfold Msg.take
      repeat' split
      all_goals rfl
    · show m.data :: (sendL (i + 1) l _).1.map Msg.data = m.data :: l.map Msg.data
      rw [sendL_dat (i + 1) l]
/-- What holds of the box between the events: at most j messages. -/
structure MI (j : Nat) (ms : List Msg) : Prop where
  a : AInv ms
  d : ms.map Msg.data = (List.range ms.length).map dat
  l : ms.length ≤ j
section
variable {j : Nat} {ms : List Msg}
theorem MI.nil : MI 0 [] := ⟨AInv.nil, rfl, Nat.le_refl _⟩
theorem MI.mono {k : Nat} (h : MI j ms) (hk : j ≤ k) : MI k ms := ⟨h.a, h.d, Nat.le_trans h.l hk⟩
theorem MI.get (h : MI j ms) {i : Nat} {m : Msg} (hm : ms[i]? = some m) : m.data = dat i := by
  have h1 := congrArg (fun l => l[i]?) h.d
  simp only [List.getElem?_map, hm] at h1
  have hi : i < ms.length := by
    rcases Nat.lt_or_ge i ms.length with c | c
    · exact c
    · rw [List.getElem?_eq_none c] at hm; cases hm
  rw [List.getElem?_range hi] at h1
  exact Option.some.inj h1
theorem MI.d7 (h : MI j ms) : ∀ m ∈ ms, m.data.length ≤ 7 := fun m hm => by
  obtain ⟨i, hi⟩ := List.getElem?_of_mem hm
  rw [h.get hi]
  unfold dat
  rw [List.length_replicate]
  omega
theorem MI.tot (h : MI j ms) : (strmM 0 ms).length + boxR ms ≤ 12 * j := by
  have := tot_le 0 ms fun m hm => ⟨h.a.ok m hm, h.d7 m hm⟩
  have := h.l
  omega
theorem MI.next (h : MI j ms) (tick most : Int) : MI j (nextM ms tick most) ∧ strmM 0 (nextM ms tick most) = strmM 0 ms ++ nextW ms tick most := by
  obtain ⟨h1, h2⟩ := h.a.next tick most
  have hn : (nextM ms tick most).length = ms.length := by unfold nextM finOf; rw [sendL_len, dropM_len]
  refine ⟨⟨h1, ?_, by rw [hn]; exact h.l⟩, h2⟩
  rw [hn, ← h.d]
  unfold nextM finOf
  rw [sendL_dat, dropM_dat]
theorem MI.less (h : MI j ms) (tick most : Int) : boxR (nextM ms tick most) + (nextW ms tick most).length ≤ boxR ms := by
  have h1 := boxR_send 0 (dropM (pNext tick) 5 0 ms) most.toNat
  have h2 := boxR_drop (pNext tick) 5 (by decide) 0 ms
  unfold nextM nextW finOf wantOf
  omega
theorem MI.none (h : MI j ms) (tick : Int) {most : Int} (hm : 1 ≤ most) (hw : nextW ms tick most = []) : boxR (nextM ms tick most) = 0 :=
  send_none 0 _ most.toNat (dropM_ok (pNext tick) 5 (by decide) (by decide) h.a.mok) (by omega) hw
theorem MI.cancel (h : MI j ms) (n : Int) : MI j (cancelM ms n) ∧ strmM 0 (cancelM ms n) = strmM 0 ms := by
  obtain ⟨h1, h2⟩ := h.a.cancel n
  have hn : (cancelM ms n).length = ms.length := by unfold cancelM; split; exact dropM_len _ _ _ _; rfl
  refine ⟨⟨h1, ?_, by rw [hn]; exact h.l⟩, h2⟩
  rw [hn, ← h.d]
  unfold cancelM
  split
  · rw [dropM_dat]
  · rfl
theorem openN_le : ∀ (l : List Msg), openN l ≤ l.length := fun l => List.length_filter_le _ _
theorem MI.put (h : MI j ms) (hj : j ≤ 900) (dl : Int) (hd : -1 ≤ dl) : putM ms 1000 (dat ms.length) dl = ms ++ [⟨dat ms.length, dl, 1, 0⟩] ∧ putN ms 1000 (dat ms.length) dl = ms.length ∧ putE ms 1000 (dat ms.length) dl = 0 ∧
    MI (j + 1) (ms ++ [⟨dat ms.length, dl, 1, 0⟩]) ∧ strmM 0 (ms ++ [⟨dat ms.length, dl, 1, 0⟩]) = strmM 0 ms := by
  have hb : ¬ putBad (dat ms.length) dl = true := by
    unfold putBad
    have : (dat ms.length).length = 1 + ms.length % 7 := by unfold dat; rw [List.length_replicate]
    simp only [Bool.or_eq_true, decide_eq_true_eq]
    omega
  have hr : ¬ (1000 : Int) ≤ (openN ms : Int) := by have := openN_le ms; have := h.l; omega
  have e : putM ms 1000 (dat ms.length) dl = ms ++ [⟨dat ms.length, dl, 1, 0⟩] := by unfold putM; rw [if_neg hb, if_neg hr]
  obtain ⟨h1, h2⟩ := h.a.put 1000 (dat ms.length) dl
  rw [e] at h1 h2
  refine ⟨e, by unfold putN; rw [if_neg hb, if_neg hr], by unfold putE; rw [if_neg hb, if_neg hr], ⟨h1, ?_, by rw [List.length_append]; have := h.l; simp; omega⟩, h2⟩
  rw [List.map_append, h.d, List.length_append, List.length_singleton, List.range_succ, List.map_append]
  rfl
/-- All has been sent and read. -/
theorem MI.fin (h : MI j ms) (hj : j ≤ 900) (h0 : boxR ms = 0) : (∀ m ∈ ms, 3 ≤ m.st) ∧ (gate (strmM 0 ms) (-1)).out = sentL ms :=
  ⟨box_done h.a.mok h0, (gate_strmM 0 ms (-1) h.a.ok h.a.ord (by have := h.l; omega) (by decide)).1⟩
end
end Go.Proofs.YtkaaoomliepijaaGreat
