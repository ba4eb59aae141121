/-
  slices.Delete of the first message; State, Counts, New.
-/
import Derived.Test.YtjljjohoipnhhaaBoxG
namespace Go.Proofs.Ytjljjohoipnhhaa
open Go.RowKit
set_option linter.unusedVariables false

theorem delq_wit (w : World) (g o n c : Nat) (x : It) (xs : List It) (pre sp : List Value) (ho : pre.length = o) (hb : Blk w g 67 (pre ++ ((x :: xs).map It.ptr ++ sp))) (hn : n = xs.length + 1) (hc : c = n + sp.length) :
    ∃ A : Addr, (if c = 1 then some (⟨g, o, none⟩ : Addr) else some ⟨g, o + 1, none⟩) = some A ∧ Hid (∀ j u, (xs.map It.ptr)[j]? = some u → w.drew.cell? (A.add j) = some u) := by
  by_cases h : c = 1
  · refine ⟨⟨g, o, none⟩, by simp [h], fun j u hu => ?_⟩
    have h0 : xs = [] := List.eq_nil_of_length_eq_zero (by omega)
    rw [h0] at hu
    simp at hu
  · refine ⟨⟨g, o + 1, none⟩, by simp [h], fun j u hu => ?_⟩
    rw [Addr.add_lit]
    refine hb.cell ?_
    have hj : j < (xs.map It.ptr).length := (List.getElem?_eq_some_iff.1 hu).1
    rw [List.getElem?_append_right (by omega), show o + 1 + j - pre.length = j + 1 by omega, List.map_cons, List.cons_append, List.getElem?_cons_succ, List.getElem?_append_left hj]
    exact hu

set_option maxHeartbeats 2000000 in
set_option maxRecDepth 1000000 in
theorem delq_blk (w : World) (g o n c : Nat) (x : It) (xs : List It) (pre sp : List Value) (ho : pre.length = o) (hb : Blk w g 67 (pre ++ ((x :: xs).map It.ptr ++ sp))) (hn : n = xs.length + 1) (hc : c = n + sp.length) (hm : c ≤ maxLen) :
    Calls Try.prog 33 #[.slice (some ⟨g, o, none⟩) n c, .int .i64 0, .int .i64 1] w fun e w' => e = .returned (.slice (some ⟨g, o, none⟩) xs.length c) ∧ Blk w' g 67 (pre ++ (xs.map It.ptr ++ (.pointer none) :: sp)) ∧ Upd (fun k => k = g) w w' := by
  obtain ⟨A, hA, hnews⟩ := delq_wit w g o n c x xs pre sp ho hb hn hc
  obtain ⟨i0, hi0, hz0, hz1, hz2⟩ := info_parts Try.infoItP
  have HB := Lib.hid hb
  have hfree : ∀ j, w.frozen? ⟨g, j, none⟩ = false := hb.free
  have s1 : Hid ((xs.map It.ptr).length = (n - 1) * 1) := by show _ = _; simp; omega
  have s2 : Hid (∀ u ∈ xs.map It.ptr, u.oneCell' = true) := one_map _ (fun _ => rfl) _
  have hsome : ∀ j, j < n → (w.cell? ⟨g, o + j, none⟩).isSome = true := by
    intro j hj
    have hlt : o + j < (pre ++ ((x :: xs).map It.ptr ++ sp)).length := by simp; omega
    rw [hb.cell (List.getElem?_eq_getElem hlt)]
    rfl
  have s3 : Hid (∀ j, j < (xs.map It.ptr).length → (w.drew.cell? ⟨g, o + 0 * 1 + j, none⟩).isSome = true ∧ w.drew.frozen? ⟨g, o + 0 * 1 + j, none⟩ = false) := by
    intro j hj
    have e : o + 0 * 1 + j = o + j := by omega
    rw [e]
    exact ⟨hsome j (by simp at hj; omega), hfree _⟩
  have hdrop : ∃ y : Value, ((x :: xs).map It.ptr ++ sp).drop xs.length = y :: sp := by
    refine ⟨((x :: xs).map It.ptr)[xs.length]'(by simp), ?_⟩
    rw [List.drop_append_of_le_length (by simp)]
    rw [show ((x :: xs).map It.ptr).drop xs.length = [((x :: xs).map It.ptr)[xs.length]'(by simp)] from by
      rw [List.drop_eq_getElem_cons (by simp), List.drop_eq_nil_of_le (by simp)]]
    rfl
  obtain ⟨y, hy⟩ := hdrop
  have K1 : Hid (Blk (w.drew.setCells g o (xs.map It.ptr)) g 67 (pre ++ (xs.map It.ptr ++ y :: sp))) := by
    show Blk _ _ _ _
    have := Blk.setCells (T := 67) (b := g) (xs.map It.ptr) o w.drew _ hb.drew (by simp; omega)
    rw [← ho, List.take_left, List.drop_length_add_append, List.length_map, hy, List.append_assoc, ho] at this
    exact this
  have hzv : ∀ w, (zeroValue 67).run Try.prog w = .ok (.pointer none) w := fun _ => by kernel_rfl
  have hcl := Lib.run_clear_slice (P := Try.prog) (w.drew.setCells g o (xs.map It.ptr)) 64 67 0 (.pointer none) Try.underlying64 hzv rfl rfl g (o + (n - 1)) (n - (n - 1)) (c - (n - 1)) (by omega)
    (fun j hj => by
      have e : o + (n - 1) + j = pre.length + (xs.map It.ptr).length := by simp; omega
      rw [e, K1.out.cell (i := pre.length + (xs.map It.ptr).length) (v := y) (by rw [List.getElem?_append_right (by omega), Nat.add_sub_cancel_left, List.getElem?_append_right (by omega)]; simp)]; rfl) (fun j hj => K1.out.free _)
  have K2 : Hid (Blk ((w.drew.setCells g o (xs.map It.ptr)).setCells g (o + xs.length) [.pointer none]) g 67 (pre ++ (xs.map It.ptr ++ (.pointer none) :: sp))) := by
    show Blk _ _ _ _
    have := Blk.setCells (T := 67) (b := g) [.pointer none] (o + xs.length) _ _ K1.out (by simp; omega)
    have e1 : (pre ++ (xs.map It.ptr ++ y :: sp)).take (o + xs.length) = pre ++ xs.map It.ptr := by
      rw [← ho, List.take_length_add_append, show xs.length = (xs.map It.ptr).length by simp, List.take_left]
    have e2 : (pre ++ (xs.map It.ptr ++ y :: sp)).drop (o + xs.length + [Value.pointer none].length) = sp := by
      rw [← ho, Nat.add_assoc, List.drop_length_add_append, show xs.length = (xs.map It.ptr).length by simp, List.drop_length_add_append]
      rfl
    rw [e1, e2] at this
    simpa [List.append_assoc] using this
  have U2 : Hid (Upd (fun k => k = g) w ((w.drew.setCells g o (xs.map It.ptr)).setCells g (o + xs.length) [.pointer none])) := Upd.setCells _ _ _ _ (Upd.setCells _ _ _ _ (Upd.refl _ w).drew rfl) rfl
  clear hb hsome hy hzv ho
  have b1 : 1 ≤ n := by omega
  have b2 : n ≤ c := by omega
  have b3 : (1 : Int) ≤ n := by omega
  have b4 : (0 : Int) ≤ (c : Int) := by omega
  have b5 : (1 : Int) ≤ (c : Int) := by omega
  have b6 : (n : Int) ≤ (c : Int) := by omega
  have HN := Lib.hid hn; have HC := Lib.hid hc; clear hn hc
  unfold maxLen at hm
  have h01 : ((0 : Int) == 1) = false := by decide
  go_enter Try.func33, Try.ntmps33
  go_wp2_with fail
  go_region_law (refine step_append_room rfl (.tmp 22) (.tmp 25) 64 rfl 67 i0 1 Try.underlying64 hi0 hz1 g o 0 c (by simp [Act.eval, Act.put]) A (n - 1) (c - 1) (xs.map It.ptr) (by simp [Act.eval, Act.put]) s1.out hnews.out s2.out (by omega) s3.out ?_)
  go_wp2_with fail
  go_ret
  have e1 : n - 1 = xs.length := by have := HN.out; omega
  have e2 : n - (n - 1) = 1 := by omega
  rw [e2, e1]
  exact ⟨rfl, K2.out, U2.out⟩
theorem delq_any (w : World) (base : Nat) (a : Option Addr) (n c : Nat) (x : It) (xs : List It) (h : Vw It.ptr 67 w base (.slice a n c) (x :: xs)) :
    Calls Try.prog 33 #[.slice a n c, .int .i64 0, .int .i64 1] w fun e w' => e = .returned (.slice a xs.length c) ∧ Vw It.ptr 67 w' base (.slice a xs.length c) xs ∧ Upd (fun k => (Value.slice a n c).ownBlock = some k) w w' := by
  rcases h with ⟨_, h⟩ | ⟨g, o, c', e, h1, h2, h3, h4, h5⟩
  · cases h
  · simp only [Value.slice.injEq] at e
    obtain ⟨rfl, rfl, rfl⟩ := e
    simp only [List.length_cons] at h3
    rcases h5 with h5 | ⟨pre, sp, ho, hb, e2⟩
    · omega
    refine (delq_blk w g o _ c x xs pre sp ho hb (by simp) (by simpa using e2) h4).mono ?_
    rintro e w' ⟨rfl, hb', hu⟩
    have hu' : Upd (fun k => (Value.slice (some ⟨g, o, none⟩) (x :: xs).length c).ownBlock = some k) w w' := hu.mono fun k _ hk => by rw [hk]; rfl
    refine ⟨rfl, .inr ⟨g, o, c, rfl, h1, Nat.lt_of_lt_of_le h2 hu.size, by omega, h4, .inr ⟨pre, _, ho, hb', ?_⟩⟩, hu'⟩
    simp at e2 ⊢
    omega

def stOf (st : List Nat) (n : Int) : Int := if n < 0 then 0 else ((st[n.toNat]?).getD 0 : Nat)
set_option maxHeartbeats 2000000 in
theorem state_any (w : World) (base b : Nat) (room : Int) (qv sv : Value) (its : List It) (st : List Nat) (h : BoxR w base b room qv sv its st) (hl : st.length ≤ 100000) (h5 : ∀ s ∈ st, s ≤ 5) (n : Int) :
    Calls Try.prog 13 #[.pointer (some ⟨b, 0, none⟩), .int .i64 n] w fun e w' => e = .returned (.int .i64 (stOf st n)) ∧ w = w' := by
  obtain ⟨a, c, rfl⟩ := h.hs.shape
  have b2 := h.hb.cell (i := 2) rfl
  have hsl := h.hs.sl
  unfold stOf
  by_cases h1 : n < 0
  · rw [if_pos h1]
    have hd : decide (n < 0) = true := by simpa using h1
    clear h hsl
    go_enter Try.func13, Try.ntmps13
    go_wp2
    go_ret
    exact ⟨rfl, rfl⟩
  · rw [if_neg h1]
    have hd : decide (n < 0) = false := by simpa using h1
    obtain ⟨k, rfl⟩ := Int.eq_ofNat_of_zero_le (show 0 ≤ n by omega)
    rw [Int.toNat_natCast]
    by_cases h2 : k < st.length
    · obtain ⟨s, hs⟩ : ∃ s, st[k]? = some s := ⟨st[k], by simp [h2]⟩
      obtain ⟨oka, ck⟩ := hsl k s hs
      unfold stV at ck
      rw [hs]
      show Calls _ _ _ _ fun e w' => e = .returned (.int .i64 (s : Int)) ∧ w = w'
      have hs5 := h5 s (List.mem_of_getElem? hs)
      have hd2 : decide (st.length ≤ k) = false := by simp; omega
      clear h hsl hs h1 h5
      go_enter Try.func13, Try.ntmps13
      go_wp2
      go_ret
      exact ⟨rfl, rfl⟩
    · rw [List.getElem?_eq_none (by omega)]
      show Calls _ _ _ _ fun e w' => e = .returned (.int .i64 0) ∧ w = w'
      have hd2 : decide (st.length ≤ k) = true := by simp; omega
      clear h hsl h1
      go_enter Try.func13, Try.ntmps13
      go_wp2
      go_ret
      exact ⟨rfl, rfl⟩

set_option maxHeartbeats 2000000 in
theorem counts_any (w : World) (base b : Nat) (room : Int) (qv sv : Value) (its : List It) (st : List Nat) (h : BoxR w base b room qv sv its st) :
    Calls Try.prog 20 #[.pointer (some ⟨b, 0, none⟩)] w fun e w' => e = .returned (.agg #[.int .i64 (cnt st 0), .int .i64 (cnt st 1), .int .i64 (cnt st 2), .int .i64 (cnt st 3), .int .i64 (cnt st 4), .int .i64 (cnt st 5)]) ∧ Below w.heap.size w w' := by
  have q0 := h.hb.cell (i := 3) rfl
  have q1 := h.hb.cell (i := 4) rfl
  have q2 := h.hb.cell (i := 5) rfl
  have q3 := h.hb.cell (i := 6) rfl
  have q4 := h.hb.cell (i := 7) rfl
  have q5 := h.hb.cell (i := 8) rfl
  have hlt := h.hb.lt
  have hne : ¬ b = w.heap.size := by omega
  clear h
  generalize cnt st 0 = n0 at *
  generalize cnt st 1 = n1 at *
  generalize cnt st 2 = n2 at *
  generalize cnt st 3 = n3 at *
  generalize cnt st 4 = n4 at *
  generalize cnt st 5 = n5 at *
  go_enter Try.func20, Try.ntmps20
  go_wp2
  exact bodyPost_ret (v := .agg #[.int .i64 n0, .int .i64 n1, .int .i64 n2, .int .i64 n3, .int .i64 n4, .int .i64 n5]) (by simp [results, Try.results20, go_sem]) rfl ⟨rfl, (Below.refl _ _).alloc (Nat.le_refl _) _⟩

def BoxNew (w : World) (room : Int) (e : Ending) (w' : World) : Prop :=
  e = .returned (.tuple #[.pointer (some ⟨w.heap.size, 0, none⟩), .int .i64 0]) ∧ BoxAt w' w.heap.size w.heap.size room (.slice none 0 0) (.slice none 0 0) [] [] ∧ Below w.heap.size w w'
theorem boxNew_at (w : World) (room : Int) : BoxAt (w.alloc (.cells #[.int .i64 room, .slice none 0 0, .slice none 0 0, .int .i64 0, .int .i64 0, .int .i64 0, .int .i64 0, .int .i64 0, .int .i64 0] 66)) w.heap.size w.heap.size room (.slice none 0 0) (.slice none 0 0) [] [] :=
  ⟨⟨Blk.new w _ [.int .i64 room, .slice none 0 0, .slice none 0 0, .int .i64 0, .int .i64 0, .int .i64 0, .int .i64 0, .int .i64 0, .int .i64 0], Vw.nil _ _ _ _, (fun x hx => by cases hx), Nat.le_refl _, by simp [boxFoot, itFoot, Value.ownBlock]⟩, Vw.nil _ _ _ _⟩
set_option maxHeartbeats 2000000 in
theorem new_ok (w : World) (room : Int) (h1 : 1 ≤ room) (h2 : room ≤ 1000) : Calls Try.prog 10 #[.int .i64 room] w (BoxNew w room) := by
  have HN := Lib.hid (boxNew_at w room)
  have d1 : decide (room < 1) = false := by simp; omega
  have d2 : decide (1000 < room) = false := by simp; omega
  go_enter Try.func10, Try.ntmps10
  go_wp2
  go_ret2
  exact ⟨rfl, HN.out, (Below.refl _ _).alloc (Nat.le_refl _) _⟩
set_option maxHeartbeats 2000000 in
theorem new_bad (w : World) (room : Int) (h : room < 1 ∨ 1000 < room) : Calls Try.prog 10 #[.int .i64 room] w fun e w' => e = .returned (.tuple #[.pointer none, .int .i64 2]) ∧ w = w' := by
  rcases h with h | h
  · have d1 : decide (room < 1) = true := by simp; omega
    go_enter Try.func10, Try.ntmps10
    go_wp2
    go_ret2
    exact ⟨rfl, rfl⟩
  · have d1 : decide (room < 1) = false := by simp; omega
    have d2 : decide (1000 < room) = true := by simp; omega
    go_enter Try.func10, Try.ntmps10
    go_wp2
    go_ret2
    exact ⟨rfl, rfl⟩
end Go.Proofs.Ytjljjohoipnhhaa
