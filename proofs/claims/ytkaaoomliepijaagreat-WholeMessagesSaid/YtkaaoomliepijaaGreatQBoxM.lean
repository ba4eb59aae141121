/-
  message.Box in terms of its messages: New, Put, Cancel, Next, State, Counts.
-/
import Derived.Test.YtkaaoomliepijaaGreatQBoxR
import Derived.Test.YtkaaoomliepijaaGreatQBoxQ
namespace Go.Proofs.YtkaaoomliepijaaGreat
open Go.RowKit
set_option linter.unusedVariables false

/-- The box at b holds the messages ms; what it owns lies in F. -/
structure BoxM (w : World) (base b : Nat) (room : Int) (ms : List Msg) (F : Nat → Prop) : Prop where
  ex : ∃ qv sv its, BoxAt w base b room qv sv its (ms.map Msg.st) ∧ its.map It.key = queueL 0 ms ∧ ∀ k ∈ boxFoot b qv sv its, F k
  ok : ∀ m ∈ ms, MsgOk m
  lt : ∀ k, F k → base ≤ k ∧ k < w.heap.size
theorem BoxM.upd {S F : Nat → Prop} {w w' : World} {base b : Nat} {room : Int} {ms : List Msg} (h : BoxM w base b room ms F) (u : Upd S w w') (hs : ∀ k, F k → ¬ S k) : BoxM w' base b room ms F := by
  obtain ⟨⟨qv, sv, its, h1, h2, h3⟩, h4, h5⟩ := h
  exact ⟨⟨qv, sv, its, h1.upd u fun k hk => hs k (h3 k hk), h2, h3⟩, h4, fun k hk => ⟨(h5 k hk).1, Nat.lt_of_lt_of_le (h5 k hk).2 u.size⟩⟩
theorem BoxM.below {F : Nat → Prop} {w w' : World} {base b : Nat} {room : Int} {ms : List Msg} (h : BoxM w base b room ms F) (q : Below w.heap.size w w') : BoxM w' base b room ms F :=
  h.upd (S := fun _ => False) (Upd.of_below q) fun _ _ => id
theorem map_st_le {ms : List Msg} (ok : ∀ m ∈ ms, MsgOk m) : ∀ s ∈ ms.map Msg.st, s ≤ 5 := by
  intro s hs
  obtain ⟨m, hm, rfl⟩ := List.mem_map.1 hs
  exact (ok m hm).s5

def BoxNewM (w : World) (room : Int) (e : Ending) (w' : World) : Prop :=
  e = .returned (.tuple #[.pointer (some ⟨w.heap.size, 0, none⟩), .int .i64 0]) ∧ BoxM w' w.heap.size w.heap.size room [] (fun k => k = w.heap.size) ∧ Below w.heap.size w w'
theorem mnew_ok (w : World) (room : Int) (h1 : 1 ≤ room) (h2 : room ≤ 1000) : Calls Tryz.prog 16 #[.int .i64 room] w (BoxNewM w room) := by
  refine (new_ok w room h1 h2).mono ?_
  rintro e w' ⟨rfl, h1, h2⟩
  refine ⟨rfl, ⟨⟨_, _, _, h1, rfl, fun k hk => ?_⟩, (fun m hm => by cases hm), fun k hk => ?_⟩, h2⟩
  · simpa [boxFoot, itFoot, Value.ownBlock] using hk
  · subst hk; exact ⟨Nat.le_refl _, h1.r.hb.lt⟩

def putBad (data : List Int) (dl : Int) : Bool := decide (data.length < 1) || decide (1000 < data.length) || decide (dl < -1)
def putM (ms : List Msg) (room : Int) (data : List Int) (dl : Int) : List Msg := if putBad data dl = true then ms else if room ≤ (openN ms : Int) then ms else ms ++ [⟨data, dl, 1, 0⟩]
def putN (ms : List Msg) (room : Int) (data : List Int) (dl : Int) : Int := if putBad data dl = true then -1 else if room ≤ (openN ms : Int) then -1 else (ms.length : Int)
def putE (ms : List Msg) (room : Int) (data : List Int) (dl : Int) : Int := if putBad data dl = true then 2 else if room ≤ (openN ms : Int) then 5 else 0
def frF (F : Nat → Prop) (w w' : World) (k : Nat) : Prop := F k ∨ (w.heap.size ≤ k ∧ k < w'.heap.size)
def MPut (w : World) (base b : Nat) (room : Int) (ms : List Msg) (F : Nat → Prop) (data : List Int) (dl : Int) (e : Ending) (w' : World) : Prop :=
  e = .returned (.tuple #[.int .i64 (putN ms room data dl), .int .i64 (putE ms room data dl)]) ∧ BoxM w' base b room (putM ms room data dl) (frF F w w') ∧ Upd F w w'
theorem openN_its {its : List It} {ms : List Msg} (h : its.map It.key = queueL 0 ms) : its.length = openN ms := by
  have e := congrArg List.length h
  rwa [List.length_map, queueL_len] at e
theorem BoxM.fr {F : Nat → Prop} {w w' : World} {base b : Nat} {room : Int} {ms : List Msg} (h : BoxM w' base b room ms F) (hb : base ≤ w.heap.size) : BoxM w' base b room ms (frF F w w') := by
  obtain ⟨⟨qv, sv, its, h1, h2, h3⟩, h4, h5⟩ := h
  refine ⟨⟨qv, sv, its, h1, h2, fun k hk => .inl (h3 k hk)⟩, h4, fun k hk => ?_⟩
  rcases hk with hk | hk
  · exact h5 k hk
  · exact ⟨Nat.le_trans hb hk.1, hk.2⟩

theorem mput_any (w : World) (base b : Nat) (room : Int) (ms : List Msg) (F : Nat → Prop) (h : BoxM w base b room ms F) (ln : ms.length ≤ 1000) (da : Option Addr) (dc : Nat) (data : List Int) (hd : Sl (Value.int .u8) w da data) (hdm : data.length ≤ maxLen) (dl : Int) (hda : data ≠ [] → ∀ k, F k → (da.getD default).block ≠ k) (hbase : base ≤ w.heap.size) :
    Calls Tryz.prog 44 #[.pointer (some ⟨b, 0, none⟩), .slice da data.length dc, .int .i64 dl] w (MPut w base b room ms F data dl) := by
  obtain ⟨qv, sv, its, h1, h2, h3⟩ := h.ex
  have ho := openN_its h2
  have hil := items_len h2
  unfold MPut putN putE putM
  by_cases hb : putBad data dl = true
  · rw [if_pos hb, if_pos hb, if_pos hb]
    have hb' : data.length < 1 ∨ 1000 < data.length ∨ dl < -1 := by
      unfold putBad at hb
      simp only [Bool.or_eq_true, decide_eq_true_eq] at hb
      omega
    refine (put_bad w b da data.length dc dl hdm hb').mono ?_
    rintro e w' ⟨rfl, rfl⟩
    exact ⟨rfl, h.fr hbase, Upd.refl _ _⟩
  · rw [if_neg hb, if_neg hb, if_neg hb]
    have hb' : 1 ≤ data.length ∧ data.length ≤ 1000 ∧ -1 ≤ dl := by
      unfold putBad at hb
      simp only [Bool.or_eq_true, decide_eq_true_eq] at hb
      omega
    by_cases hr : room ≤ (openN ms : Int)
    · rw [if_pos hr, if_pos hr, if_pos hr]
      refine (put_full w base b room qv sv its _ h1 (by rw [List.length_map]; omega) da data.length dc dl hb'.1 hb'.2.1 hb'.2.2 (by rw [ho]; exact hr)).mono ?_
      rintro e w' ⟨rfl, hq⟩
      exact ⟨rfl, (h.below hq.bel).fr hbase, Upd.of_below hq.bel⟩
    · rw [if_neg hr, if_neg hr, if_neg hr]
      refine (put_ok w base b room qv sv its _ h1 (by rw [List.length_map]; omega) (by omega) da dc data hd dl hb'.1 hb'.2.1 hb'.2.2 (by rw [ho]; omega) F h3 (fun k hk => (h.lt k hk).2) (hda (by intro e; have := hb'.1; rw [e] at this; simp at this)) hbase).mono ?_
      rintro e w' ⟨rfl, qv', sv', x, hk, h5, h6, h7⟩
      refine ⟨by rw [List.length_map], ⟨⟨qv', sv', its ++ [x], ?_, ?_, fun k hk => ?_⟩, ?_, fun k hk => ?_⟩, h7⟩
      · rw [List.map_append]; exact h5
      · rw [List.map_append, h2, queueL_append, Nat.zero_add]
        rw [List.length_map, form_eq ms.length (by omega) data hb'.2.1] at hk
        show queueL 0 ms ++ [x.key] = _
        rw [hk]
        rfl
      · rcases h6 k hk with e | e
        · exact .inl e
        · exact .inr ⟨e, (h5.lt hk).2⟩
      · intro m hm
        rcases List.mem_append.1 hm with hm | hm
        · exact h.ok m hm
        · obtain rfl := List.mem_singleton.1 hm
          exact ⟨hb'.1, hb'.2.1, hb'.2.2, Nat.le_refl _, by show 1 ≤ 5; omega, fun _ => rfl, fun _ => by show 0 < data.length + 5; omega⟩
      · rcases hk with hk | hk
        · exact ⟨(h.lt k hk).1, Nat.lt_of_lt_of_le (h.lt k hk).2 h7.size⟩
        · exact ⟨Nat.le_trans hbase hk.1, hk.2⟩

theorem put_yes {ms : List Msg} {room : Int} {data : List Int} {dl : Int} (h : putE ms room data dl = 0) : putM ms room data dl = ms ++ [⟨data, dl, 1, 0⟩] ∧ putN ms room data dl = ms.length := by
  unfold putE at h
  unfold putM putN
  by_cases hb : putBad data dl = true
  · rw [if_pos hb] at h; omega
  · rw [if_neg hb] at h ⊢
    rw [if_neg hb]
    by_cases hr : room ≤ (openN ms : Int)
    · rw [if_pos hr] at h; omega
    · rw [if_neg hr, if_neg hr]; exact ⟨rfl, rfl⟩
theorem put_no {ms : List Msg} {room : Int} {data : List Int} {dl : Int} (h : putE ms room data dl ≠ 0) : putM ms room data dl = ms := by
  unfold putE at h
  unfold putM
  by_cases hb : putBad data dl = true
  · rw [if_pos hb]
  · rw [if_neg hb] at h ⊢
    by_cases hr : room ≤ (openN ms : Int)
    · rw [if_pos hr]
    · rw [if_neg hr] at h; exact absurd rfl h
def nextW (ms : List Msg) (tick most : Int) : List Int := wantOf (dropM (pNext tick) 5 0 ms) most
def nextM (ms : List Msg) (tick most : Int) : List Msg := finOf (dropM (pNext tick) 5 0 ms) most
def MNext (w : World) (base b : Nat) (room : Int) (ms : List Msg) (F : Nat → Prop) (tick most : Int) (e : Ending) (w' : World) : Prop :=
  ∃ ov, e = .returned ov ∧ Vw (Value.int .u8) 5 w' w.heap.size ov (nextW ms tick most) ∧ BoxM w' base b room (nextM ms tick most) F ∧ Upd F w w'
theorem sendL_total : ∀ (i : Nat) (l : List Msg) (b : Nat), (∀ m ∈ l, MsgOk m) → (sendL i l b).2.length ≤ l.length * 1005
  | _, [], b, _ => by simp [sendL]
  | i, m :: l, b, h => by
    have ih := fun b => sendL_total (i + 1) l b fun x hx => h x (by simp [hx])
    have hl := rest_len m i
    have hd := (h m (by simp)).d2
    rw [sendL_cons]
    split
    · have h1 := ih (b - min (m.rest i).length b)
      have h2 : ((m.rest i).take b).length ≤ 1005 := by rw [List.length_take]; omega
      show ((m.rest i).take b ++ (sendL (i + 1) l (b - min (m.rest i).length b)).2).length ≤ (l.length + 1) * 1005
      rw [List.length_append, Nat.succ_mul, Nat.add_comm]
      exact Nat.add_le_add h1 h2
    · have h1 := ih b
      show (sendL (i + 1) l b).2.length ≤ (l.length + 1) * 1005
      rw [Nat.succ_mul]
      exact Nat.le_trans h1 (Nat.le_add_right _ _)
theorem mnext_any (w : World) (base b : Nat) (room : Int) (ms : List Msg) (F : Nat → Prop) (h : BoxM w base b room ms F) (ln : ms.length ≤ 1000) (tick most : Int) (hmost : most ≤ 9223372036854775807) (hbase : base ≤ w.heap.size) :
    Calls Tryz.prog 24 #[.pointer (some ⟨b, 0, none⟩), .int .i64 tick, .int .i64 most] w (MNext w base b room ms F tick most) := by
  obtain ⟨qv, sv, its, h1, h2, h3⟩ := h.ex
  have hok := dropM_ok (pNext tick) 5 (by decide) (by decide) h.ok
  have hw := sendL_total 0 (dropM (pNext tick) 5 0 ms) most.toNat hok
  rw [dropM_len] at hw
  refine (next_any w base b room qv sv its ms h1 h2 h.ok ln tick most hmost F h3 (fun k hk => (h.lt k hk).2) (by unfold wantOf; omega) hbase).mono ?_
  rintro e w' ⟨ov, rfl, qv', sv', its', h5, h6, h7, h8, h9, h10⟩
  exact ⟨ov, rfl, h7, ⟨⟨qv', sv', its', h5, h6, h8⟩, h10, fun k hk => ⟨(h.lt k hk).1, Nat.lt_of_lt_of_le (h.lt k hk).2 h9.size⟩⟩, h9⟩

theorem mstate_any (w : World) (base b : Nat) (room : Int) (ms : List Msg) (F : Nat → Prop) (h : BoxM w base b room ms F) (ln : ms.length ≤ 1000) (n : Int) :
    Calls Tryz.prog 12 #[.pointer (some ⟨b, 0, none⟩), .int .i64 n] w fun e w' => e = .returned (.int .i64 (stOf (ms.map Msg.st) n)) ∧ w = w' := by
  obtain ⟨qv, sv, its, h1, h2, h3⟩ := h.ex
  exact state_any w base b room qv sv its _ h1.r (by rw [List.length_map]; omega) (map_st_le h.ok) n
def cntV (ms : List Msg) (k : Nat) : Value := .int .i64 (cnt (ms.map Msg.st) k)
def cancelM (ms : List Msg) (n : Int) : List Msg := if stOf (ms.map Msg.st) n = 1 then dropM (pCancel n.toNat) 4 0 ms else ms
def cancelE (ms : List Msg) (n : Int) : Int := if stOf (ms.map Msg.st) n = 0 then 7 else if stOf (ms.map Msg.st) n = 1 then 0 else 6
def MCancel (w : World) (base b : Nat) (room : Int) (ms : List Msg) (F : Nat → Prop) (n : Int) (e : Ending) (w' : World) : Prop :=
  e = .returned (.int .i64 (cancelE ms n)) ∧ BoxM w' base b room (cancelM ms n) F ∧ Upd F w w'
set_option maxHeartbeats 4000000 in
set_option maxRecDepth 100000 in
theorem mcancel_any (w : World) (base b : Nat) (room : Int) (ms : List Msg) (F : Nat → Prop) (h : BoxM w base b room ms F) (ln : ms.length ≤ 1000) (n : Int) (hbase : base ≤ w.heap.size) :
    Calls Tryz.prog 23 #[.pointer (some ⟨b, 0, none⟩), .int .i64 n] w (MCancel w base b room ms F n) := by
  obtain ⟨qv, sv, its, h1, h2, h3⟩ := h.ex
  obtain ⟨qa, qc, rfl⟩ := h1.q.shape
  have hil := items_len h2
  have B1 : Below w.heap.size w (w.alloc (.cells #[.int .i64 n] 3)) := (Below.refl _ _).alloc (Nat.le_refl _) _
  have HM := Lib.hid (h.below B1)
  have S := Lib.hid (mstate_any _ base b room ms F HM.out ln n)
  have HB := Lib.hid B1
  unfold MCancel cancelE cancelM
  by_cases e0 : stOf (ms.map Msg.st) n = 0
  · rw [if_pos e0, if_neg (by rw [e0]; decide)]
    rw [e0] at S
    clear h h1 h2 h3 B1 e0
    go_enter Tryz.func23, Tryz.ntmps23
    go_wp2_with fail
    refine S.out.mono ?_
    rintro e w2 ⟨rfl, rfl⟩
    go_wp2_with fail
    go_ret
    exact ⟨rfl, HM.out, Upd.of_below HB.out⟩
  · rw [if_neg e0]
    by_cases e1 : stOf (ms.map Msg.st) n = 1
    · rw [if_pos e1, if_pos e1]
      obtain ⟨k, rfl⟩ : ∃ k : Nat, n = (k : Int) := by
        refine ⟨n.toNat, ?_⟩
        unfold stOf at e0
        by_cases hn : n < 0
        · rw [if_pos hn] at e0; exact absurd rfl e0
        · omega
      rw [Int.toNat_natCast]
      obtain ⟨k1, k2⟩ := dp_model (pCancel k) 4 (by decide) h2
      have D := Lib.hid (drop_any (w.alloc (.cells #[.int .i64 (k : Int)] 3)) base b room qa qc sv its (ms.map Msg.st) (h1.below B1) w.heap.size (.func (.func 49) #[] #[.pointer (some ⟨w.heap.size, 0, none⟩)]) (pCancel k) 4 (by decide)
        (.inr ⟨k, rfl, Blk.new w _ [.int .i64 (k : Int)], rfl⟩) (h1.nfoot (Nat.le_refl _)) (by simp) (allSt_of h2 h.ok) (by simp; omega) (by omega))
      have M0 : Hid (∀ w2, DropM (w.alloc (.cells #[.int .i64 (k : Int)] 3)) base b room (.slice qa its.length qc) sv its (ms.map Msg.st) (pCancel k) 4 w2 → BoxM w2 base b room (dropM (pCancel k) 4 0 ms) F ∧ Upd F w w2) := by
        rintro w2 ⟨qv', h5, h6, h7⟩
        rw [k2] at h5
        have hu : Upd F w w2 := Upd.then (Upd.of_below B1) (h7.mono fun k _ hk => h3 k hk) (fun _ _ h => h)
        refine ⟨⟨⟨qv', sv, _, h5, k1, fun k hk => h3 k ?_⟩, dropM_ok _ _ (by decide) (by decide) h.ok, fun k hk => ⟨(h.lt k hk).1, Nat.lt_of_lt_of_le (h.lt k hk).2 hu.size⟩⟩, hu⟩
        rcases of_boxFoot hk with e | e | e | e
        · exact in_boxFoot (.inl e)
        · exact in_boxFoot (.inr (.inl (by rw [← h6]; exact e)))
        · exact in_boxFoot (.inr (.inr (.inl e)))
        · exact in_boxFoot (.inr (.inr (.inr ((itFoot_sub (dp_sub _ _ _ _)).subset e))))
      rw [e1] at S
      clear h h1 h2 h3 B1 e0 e1 k1 k2
      generalize its.length = m at *
      go_enter Tryz.func23, Tryz.ntmps23
      go_wp2_with fail
      refine S.out.mono ?_
      rintro e w2 ⟨rfl, rfl⟩
      go_wp2_with fail
      refine D.out.mono ?_
      rintro e w3 ⟨rfl, hD⟩
      have M1 := Lib.hid (M0.out _ hD)
      clear hD
      go_wp2_with fail
      go_ret
      exact ⟨rfl, M1.out.1, M1.out.2⟩
    · rw [if_neg e1, if_neg e1]
      have f0 : (stOf (ms.map Msg.st) n == 0) = false := by simpa using e0
      have f1 : (stOf (ms.map Msg.st) n == 1) = false := by simpa using e1
      generalize stOf (ms.map Msg.st) n = s at *
      clear h h1 h2 h3 B1 e0 e1
      go_enter Tryz.func23, Tryz.ntmps23
      go_wp2_with fail
      refine S.out.mono ?_
      rintro e w2 ⟨rfl, rfl⟩
      go_wp2_with fail
      go_ret
      exact ⟨rfl, HM.out, Upd.of_below HB.out⟩
end Go.Proofs.YtkaaoomliepijaaGreat
