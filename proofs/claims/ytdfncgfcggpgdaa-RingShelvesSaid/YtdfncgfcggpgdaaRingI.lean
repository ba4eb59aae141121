/-
  Contracts of the methods of ring.Ring at one element type.
-/
import Derived.Test.YtdfncgfcggpgdaaRingLib
import Derived.Lib.SliceRun
namespace Go.Proofs.Ytdfncgfcggpgdaa
open Go.RowKit

theorem Try.infoRI : (Try.prog.info? 3).map (fun i => (i.zero, i.size, i.bytes)) = some (some (.int .i64 0), 1, 8) := by kernel_rfl

set_option maxHeartbeats 1000000 in
theorem newI_bad (n : Int) (w : World) (h : n < 1 ∨ 64 < n) :
    Calls Try.prog 22 #[.int .i64 n] w fun e w' => e = .returned (.tuple #[.pointer none, .int .i64 2]) ∧ w = w' := by
  rcases h with h | h
  · go_enter Try.func22, Try.ntmps22
    go_wp2
    go_ret2
    exact ⟨rfl, rfl⟩
  · have h' : ¬ n < 1 := by omega
    go_enter Try.func22, Try.ntmps22
    go_wp2
    go_ret2
    exact ⟨rfl, rfl⟩

def NewIPost (w : World) (base room : Nat) (e : Ending) (w' : World) : Prop :=
  e = .returned (.tuple #[.pointer (some ⟨w.heap.size, 0, none⟩), .int .i64 0]) ∧ RingAt (Value.int .i64) 3 88 w' base w.heap.size room (.slice none 0 0) [] ∧ Below w.heap.size w w' ∧ w'.heap.size = w.heap.size + 1

set_option maxHeartbeats 1000000 in
theorem newI_ok (n base : Nat) (w : World) (h1 : 1 ≤ n) (h2 : n ≤ 64) : Calls Try.prog 22 #[.int .i64 n] w (NewIPost w base n) := by
  have h3 : ¬ (n : Int) < 1 := by omega
  have h4 : ¬ (64 : Int) < (n : Int) := by omega
  go_enter Try.func22, Try.ntmps22
  go_wp2
  go_ret2
  refine ⟨rfl, ⟨Blk.new w 88 [.int .i64 n, .slice none 0 0], ⟨rfl, .inl ⟨rfl, rfl⟩⟩, by simp [Value.ownBlock]⟩, (Below.refl _ _).alloc (Nat.le_refl _) _, by simp⟩

set_option maxHeartbeats 1000000 in
theorem lenI_any (w : World) (base b room : Nat) (v : Value) (xs : List (Int)) (hR : RingAt (Value.int .i64) 3 88 w base b room v xs) :
    Calls Try.prog 29 #[.pointer (some ⟨b, 0, none⟩)] w fun e w' => e = .returned (.int .i64 xs.length) ∧ w = w' := by
  obtain ⟨a, c, rfl, _⟩ := own_shape hR.own
  have q1 := hR.hb.cell (i := 1) rfl
  clear hR
  go_enter Try.func29, Try.ntmps29
  go_wp2
  go_ret
  exact ⟨rfl, rfl⟩

set_option maxHeartbeats 1000000 in
theorem lenI_nil (w : World) : Calls Try.prog 29 #[.pointer none] w fun e w' => e = .returned (.int .i64 0) ∧ w = w' := by
  go_enter Try.func29, Try.ntmps29
  go_wp2
  go_ret
  exact ⟨rfl, rfl⟩

set_option maxHeartbeats 1000000 in
theorem roomI_any (w : World) (base b room : Nat) (v : Value) (xs : List (Int)) (hR : RingAt (Value.int .i64) 3 88 w base b room v xs) (h1 : room ≤ 1000) (h2 : xs.length ≤ 1000) :
    Calls Try.prog 30 #[.pointer (some ⟨b, 0, none⟩)] w fun e w' => e = .returned (.int .i64 ((room : Int) - xs.length)) ∧ Qt w w' := by
  obtain ⟨a, c, rfl, _⟩ := own_shape hR.own
  have q0 := hR.hb.cell (i := 0) rfl
  have q1 := hR.hb.cell (i := 1) rfl
  have e1 : IntKind.i64.wrap ((room : Int) - xs.length) = (room : Int) - xs.length := IntWalk.i64_in _ (by omega)
  clear hR
  go_enter Try.func30, Try.ntmps30
  go_wp2
  go_quiet (fail)
  go_wp2
  go_ret
  exact ⟨rfl, (Qt.refl _).drewN _⟩

set_option maxHeartbeats 1000000 in
theorem roomI_nil (w : World) : Calls Try.prog 30 #[.pointer none] w fun e w' => e = .returned (.int .i64 0) ∧ w = w' := by
  go_enter Try.func30, Try.ntmps30
  go_wp2
  go_ret
  exact ⟨rfl, rfl⟩

set_option maxHeartbeats 1000000 in
theorem putI_nil (w : World) (x : Int) : Calls Try.prog 24 #[.pointer none, .int .i64 x] w fun e w' => e = .returned (.int .i64 1) ∧ w = w' := by
  go_enter Try.func24, Try.ntmps24
  go_wp2
  go_ret
  exact ⟨rfl, rfl⟩

set_option maxHeartbeats 1000000 in
theorem putI_full (w : World) (base b room : Nat) (v : Value) (xs : List (Int)) (x : Int) (hR : RingAt (Value.int .i64) 3 88 w base b room v xs) (h : room ≤ xs.length) :
    Calls Try.prog 24 #[.pointer (some ⟨b, 0, none⟩), .int .i64 x] w fun e w' => e = .returned (.int .i64 5) ∧ Qt w w' := by
  obtain ⟨a, c, rfl, _⟩ := own_shape hR.own
  have q0 := hR.hb.cell (i := 0) rfl
  have q1 := hR.hb.cell (i := 1) rfl
  have e1 : decide ((room : Int) ≤ (xs.length : Int)) = true := by simp; omega
  clear hR
  go_enter Try.func24, Try.ntmps24
  go_wp2
  go_quiet (fail)
  go_wp2
  go_ret
  exact ⟨rfl, (Qt.refl _).drewN _⟩

set_option maxHeartbeats 2000000 in
set_option maxRecDepth 100000 in
theorem putI_ok (w : World) (base b room : Nat) (v : Value) (xs : List (Int)) (x : Int) (hR : RingAt (Value.int .i64) 3 88 w base b room v xs) (h : xs.length < room) (hroom : room ≤ 1000) (hbase : base ≤ w.heap.size) :
    Calls Try.prog 24 #[.pointer (some ⟨b, 0, none⟩), .int .i64 x] w (PutPost (Value.int .i64) 3 88 w base b room v (xs ++ [x])) := by
  have HR := Lib.hid hR
  have hlt := hR.hb.lt
  obtain ⟨a, c, rfl, _⟩ := own_shape hR.own
  have q0 := hR.hb.cell (i := 0) rfl
  have q1 := hR.hb.cell (i := 1) rfl
  have f1 := hR.hb.free 1
  have e1 : decide ((room : Int) ≤ (xs.length : Int)) = false := by simp; omega
  have e2 : ¬ (room : Int) ≤ (xs.length : Int) := by omega
  obtain ⟨i0, hi, hz0, hz1, hz2⟩ := info_parts Try.infoRI
  have HI := Lib.hid hi; have HZ0 := Lib.hid hz0; have HZ1 := Lib.hid hz1; have HZ2 := Lib.hid hz2
  clear hR hi hz0 hz1 hz2
  go_enter Try.func24, Try.ntmps24
  go_wp2
  go_quiet (fail)
  go_wp2_with (at_builtin; refine wpList_append_lies _ rfl _ _ 49 rfl base 3 i0 _ 1 8 Try.underlying49 HI.out HZ0.out HZ1.out HZ2.out rfl (by decide) _ xs.length (xs.map (Value.int .i64)) rfl ?c0 ⟨w.heap.size, 0, none⟩ 1 1 [.int .i64 x] rfl ?c1 ?c2 ?c3 (by decide) ?c4 ?c5 ?c6 (w.heap.size + 1) ?c7 ?_)
  case c0 => exact HR.out.own.alloc _
  case c1 => rfl
  case c2 => exact cell_one_new _ _ _
  case c3 => intro u hu; simp at hu; subst hu; rfl
  case c4 => unfold maxLen; omega
  case c5 => omega
  case c6 => simp; omega
  case c7 => simp
  intro g cap w1 hown hgr hat hglt
  have hbo : (Value.slice a xs.length c).ownBlock ≠ some b := HR.out.ne
  have hb1 : w1.heap[b]? = w.heap[b]? := (hgr.block b (by simp; omega) (Ne.symm hbo)).trans (Below.heap_alloc _ _ _ hlt)
  have K1 := HR.out.hb.of_heap hb1
  have r0 := K1.cell (i := 0) rfl
  have r1 := K1.cell (i := 1) rfl
  have g1 := K1.free 1
  have KB := Lib.hid K1
  have hgb : g ≠ b := by
    rcases hat with h | h
    · intro e; rw [e] at h; exact hbo h
    · omega
  have U1 : Hid (Upd (ringS b (.slice a xs.length c)) w w1) := Upd.then (S := ringS b (.slice a xs.length c)) (((Upd.refl _ w).drewN _).alloc _) (Upd.of_grown (b := b) hgr) (fun _ _ h => h)
  have HOWN := Lib.hid hown
  have HAT := Lib.hid hat
  clear hown hgr hat hb1 K1 q0 q1 f1
  go_wp2
  go_ret
  refine ⟨_, rfl, ⟨KB.out.set 1 _, ?_, ?_⟩, U1.out.setCell _ _ (fun _ => .inl rfl), ?_⟩
  · rw [List.length_append, List.map_append]
    exact own_upd (S := fun k => k = b) HOWN.out ((Upd.refl _ _).setCell _ _ (fun _ => rfl)) (by intro k hk; simp [Value.ownBlock] at hk; omega)
  · simp [Value.ownBlock]; exact hgb
  · rcases HAT.out with h | h
    · left; rw [h]; rfl
    · right; intro k hk; simp [Value.ownBlock] at hk; omega

set_option maxHeartbeats 1000000 in
theorem peekI_nil (w : World) : Calls Try.prog 27 #[.pointer none] w fun e w' => e = .returned (.tuple #[.int .i64 0, .bool false]) ∧ w = w' := by
  go_enter Try.func27, Try.ntmps27
  go_wp2
  go_ret2
  exact ⟨rfl, rfl⟩

set_option maxHeartbeats 1000000 in
theorem peekI_none (w : World) (base b room : Nat) (v : Value) (hR : RingAt (Value.int .i64) 3 88 w base b room v []) :
    Calls Try.prog 27 #[.pointer (some ⟨b, 0, none⟩)] w fun e w' => e = .returned (.tuple #[.int .i64 0, .bool false]) ∧ w = w' := by
  obtain ⟨a, c, rfl, _⟩ := own_shape hR.own
  have q1 := hR.hb.cell (i := 1) rfl
  simp only [List.length_nil] at q1
  clear hR
  go_enter Try.func27, Try.ntmps27
  go_wp2
  go_ret2
  exact ⟨rfl, rfl⟩

set_option maxHeartbeats 1000000 in
theorem peekI_some (w : World) (base b room : Nat) (v : Value) (x : Int) (xs : List (Int)) (hR : RingAt (Value.int .i64) 3 88 w base b room v (x :: xs)) :
    Calls Try.prog 27 #[.pointer (some ⟨b, 0, none⟩)] w fun e w' => e = .returned (.tuple #[.int .i64 x, .bool true]) ∧ w = w' := by
  obtain ⟨a, c, rfl, _⟩ := own_shape hR.own
  obtain ⟨g, sp, rfl, _, hbk, _⟩ := own_blk hR.own (by simp)
  have q1 := hR.hb.cell (i := 1) rfl
  have qx : w.cell? ⟨g, 0, none⟩ = some (.int .i64 x) := hbk.cell (i := 0) rfl
  have hn : ((x :: xs).length : Int) = xs.length + 1 := by simp
  have hp : (0 : Int) < ((x :: xs).length : Int) := by omega
  have hz : (((x :: xs).length : Int) == 0) = false := by rw [beq_eq_false_iff_ne]; omega
  generalize (x :: xs).length = n at *
  clear hR hbk hn
  go_enter Try.func27, Try.ntmps27
  go_wp2
  go_ret2
  exact ⟨rfl, rfl⟩

theorem delI_wit (w : World) (g n c : Nat) (x : Int) (xs : List (Int)) (sp : List Value) (hb : Blk w g 3 ((x :: xs).map (Value.int .i64) ++ sp)) (hn : n = xs.length + 1) (hc : c = n + sp.length) :
    ∃ A : Addr, (if c = 1 then some (⟨g, 0, none⟩ : Addr) else some ⟨g, 1, none⟩) = some A ∧ Hid (∀ j u, (xs.map (Value.int .i64))[j]? = some u → w.drew.cell? (A.add j) = some u) := by
  by_cases h : c = 1
  · refine ⟨⟨g, 0, none⟩, by simp [h], fun j u hu => ?_⟩
    have h0 : xs = [] := List.eq_nil_of_length_eq_zero (by omega)
    rw [h0] at hu
    simp at hu
  · refine ⟨⟨g, 1, none⟩, by simp [h], fun j u hu => ?_⟩
    rw [Addr.add_lit]
    refine hb.cell ?_
    have hj : j < (xs.map (Value.int .i64)).length := (List.getElem?_eq_some_iff.1 hu).1
    rw [List.map_cons, List.cons_append, Nat.add_comm 1 j, List.getElem?_cons_succ, List.getElem?_append_left hj]
    exact hu

set_option maxHeartbeats 2000000 in
set_option maxRecDepth 1000000 in
theorem delI_any (w : World) (g n c : Nat) (x : Int) (xs : List (Int)) (sp : List Value) (hb : Blk w g 3 ((x :: xs).map (Value.int .i64) ++ sp)) (hn : n = xs.length + 1) (hc : c = n + sp.length) (hm : c ≤ maxLen) :
    Calls Try.prog 43 #[.slice (some ⟨g, 0, none⟩) n c, .int .i64 0, .int .i64 1] w fun e w' => e = .returned (.slice (some ⟨g, 0, none⟩) xs.length c) ∧ Blk w' g 3 (xs.map (Value.int .i64) ++ (.int .i64 0) :: sp) ∧ Upd (fun k => k = g) w w' := by
  obtain ⟨A, hA, hnews⟩ := delI_wit w g n c x xs sp hb hn hc
  obtain ⟨i0, hi0, hz0, hz1, hz2⟩ := info_parts Try.infoRI
  have HB := Lib.hid hb
  have hfree : ∀ j, w.frozen? ⟨g, j, none⟩ = false := hb.free
  have s1 : Hid ((xs.map (Value.int .i64)).length = (n - 1) * 1) := by show _ = _; simp; omega
  have s2 : Hid (∀ u ∈ xs.map (Value.int .i64), u.oneCell' = true) := one_map _ (fun _ => rfl) _
  have hsome : ∀ j, j < n → (w.cell? ⟨g, j, none⟩).isSome = true := by
    intro j hj
    have hlt : j < ((x :: xs).map (Value.int .i64) ++ sp).length := by simp; omega
    rw [hb.cell (List.getElem?_eq_getElem hlt)]
    rfl
  have s3 : Hid (∀ j, j < (xs.map (Value.int .i64)).length → (w.drew.cell? ⟨g, 0 + 0 * 1 + j, none⟩).isSome = true ∧ w.drew.frozen? ⟨g, 0 + 0 * 1 + j, none⟩ = false) := by
    intro j hj
    have e : 0 + 0 * 1 + j = j := by omega
    rw [e]
    exact ⟨hsome j (by simp at hj; omega), hfree j⟩
  have K1 : Hid (Blk (w.drew.setCells g 0 (xs.map (Value.int .i64))) g 3 (xs.map (Value.int .i64) ++ (((x :: xs).map (Value.int .i64) ++ sp).drop xs.length))) := by
    show Blk _ _ _ _
    have := Blk.setCells (T := 3) (b := g) (xs.map (Value.int .i64)) 0 w.drew _ hb.drew (by simp; omega)
    simpa using this
  have hdrop : ∃ y : Value, ((x :: xs).map (Value.int .i64) ++ sp).drop xs.length = y :: sp := by
    refine ⟨((x :: xs).map (Value.int .i64))[xs.length]'(by simp), ?_⟩
    rw [List.drop_append_of_le_length (by simp)]
    rw [show ((x :: xs).map (Value.int .i64)).drop xs.length = [((x :: xs).map (Value.int .i64))[xs.length]'(by simp)] from by
      rw [List.drop_eq_getElem_cons (by simp), List.drop_eq_nil_of_le (by simp)]]
    rfl
  obtain ⟨y, hy⟩ := hdrop
  rw [hy] at K1
  have hzv : ∀ w, (zeroValue 3).run Try.prog w = .ok (.int .i64 0) w := fun _ => by kernel_rfl
  have hcl := Lib.run_clear_slice (P := Try.prog) (w.drew.setCells g 0 (xs.map (Value.int .i64))) 49 3 0 (.int .i64 0) Try.underlying49 hzv rfl rfl g (n - 1) (n - (n - 1)) (c - (n - 1)) (by omega)
    (fun j hj => by
      have e : n - 1 + j = xs.length := by omega
      rw [e, K1.out.cell (i := xs.length) (v := y) (by rw [List.getElem?_append_right (by simp)]; simp)]; rfl) (fun j hj => K1.out.free _)
  have K2 : Hid (Blk ((w.drew.setCells g 0 (xs.map (Value.int .i64))).setCells g xs.length [.int .i64 0]) g 3 (xs.map (Value.int .i64) ++ (.int .i64 0) :: sp)) := by
    show Blk _ _ _ _
    have := Blk.setCells (T := 3) (b := g) [.int .i64 0] xs.length _ _ K1.out (by simp)
    have e := drop_app1 (xs.map (Value.int .i64)) y sp
    rw [List.length_map] at e
    simpa [e] using this
  have U2 : Hid (Upd (fun k => k = g) w ((w.drew.setCells g 0 (xs.map (Value.int .i64))).setCells g xs.length [.int .i64 0])) := Upd.setCells _ _ _ _ (Upd.setCells _ _ _ _ (Upd.refl _ w).drew rfl) rfl
  clear hb hsome hy hzv
  have b1 : 1 ≤ n := by omega
  have b2 : n ≤ c := by omega
  have b3 : (1 : Int) ≤ n := by omega
  have b4 : (0 : Int) ≤ (c : Int) := by omega
  have b5 : (1 : Int) ≤ (c : Int) := by omega
  have b6 : (n : Int) ≤ (c : Int) := by omega
  have HN := Lib.hid hn; have HC := Lib.hid hc; clear hn hc
  unfold maxLen at hm
  have h01 : ((0 : Int) == 1) = false := by decide
  go_enter Try.func43, Try.ntmps43
  go_wp2_with fail
  go_region_law (refine step_append_room rfl (.tmp 22) (.tmp 25) 49 rfl 3 i0 1 Try.underlying49 hi0 hz1 g 0 0 c (by simp [Act.eval, Act.put]) A (n - 1) (c - 1) (xs.map (Value.int .i64)) (by simp [Act.eval, Act.put]) s1.out hnews.out s2.out (by omega) s3.out ?_)
  go_wp2_with fail
  go_ret
  have e1 : n - 1 = xs.length := by have := HN.out; omega
  have e2 : n - (n - 1) = 1 := by omega
  rw [e2, e1]
  exact ⟨rfl, K2.out, U2.out⟩

set_option maxHeartbeats 1000000 in
theorem takeI_nil (w : World) : Calls Try.prog 26 #[.pointer none] w fun e w' => e = .returned (.tuple #[.int .i64 0, .bool false]) ∧ w = w' := by
  have PK := Lib.hid (peekI_nil w)
  go_enter Try.func26, Try.ntmps26
  go_wp2_with fail
  refine PK.out.mono ?_
  rintro e w1 ⟨rfl, rfl⟩
  go_wp2_with fail
  go_ret2
  exact ⟨rfl, rfl⟩

set_option maxHeartbeats 1000000 in
theorem takeI_none (w : World) (base b room : Nat) (v : Value) (hR : RingAt (Value.int .i64) 3 88 w base b room v []) :
    Calls Try.prog 26 #[.pointer (some ⟨b, 0, none⟩)] w fun e w' => e = .returned (.tuple #[.int .i64 0, .bool false]) ∧ w = w' := by
  have PK := Lib.hid (peekI_none w base b room v hR)
  clear hR
  go_enter Try.func26, Try.ntmps26
  go_wp2_with fail
  refine PK.out.mono ?_
  rintro e w1 ⟨rfl, rfl⟩
  go_wp2_with fail
  go_ret2
  exact ⟨rfl, rfl⟩

set_option maxHeartbeats 1000000 in
theorem takeI_some (w : World) (base b room : Nat) (v : Value) (x : Int) (xs : List (Int)) (hR : RingAt (Value.int .i64) 3 88 w base b room v (x :: xs)) :
    Calls Try.prog 26 #[.pointer (some ⟨b, 0, none⟩)] w (TakePost (Value.int .i64) 3 88 w base b room v (.int .i64 x) xs) := by
  have PK := Lib.hid (peekI_some w base b room v x xs hR)
  have HR := Lib.hid hR
  obtain ⟨a, c, rfl, _⟩ := own_shape hR.own
  obtain ⟨g, sp, rfl, hg, hbk, hc, hm, _⟩ := own_blk hR.own (by simp)
  have q1 := hR.hb.cell (i := 1) rfl
  have hlen : (x :: xs).length = xs.length + 1 := by simp
  have D := Lib.hid (delI_any w g (x :: xs).length c x xs sp hbk hlen hc hm)
  have hgb : g ≠ b := fun e => hR.ne (by rw [e]; rfl)
  have HC := Lib.hid hc
  clear hR hbk hc hlen
  go_enter Try.func26, Try.ntmps26
  go_wp2_with fail
  refine PK.out.mono ?_
  rintro e w1 ⟨rfl, rfl⟩
  go_wp2_with fail
  refine D.out.mono ?_
  rintro e w2 ⟨rfl, hb2, hu⟩
  have KB := HR.out.hb.upd hu (by omega)
  have r0 := KB.cell (i := 0) rfl
  have r1 := KB.cell (i := 1) rfl
  have f1 := KB.free 1
  have HKB := Lib.hid KB; have HB2 := Lib.hid hb2; have HU := Lib.hid hu
  clear KB hb2 hu q1
  go_wp2_with fail
  go_ret2
  refine ⟨_, rfl, ⟨HKB.out.set 1 _, ?_, by simp [Value.ownBlock]; exact hgb⟩, ((HU.out.mono (T := ringS b (.slice (some ⟨g, 0, none⟩) (x :: xs).length c)) (fun k _ h => .inr (by rw [h]; rfl))).setCell _ _ (fun _ => .inl rfl)), rfl⟩
  refine own_of_blk (sp := (.int .i64 0) :: sp) hg (HB2.out.setO _ hgb) ?_ hm
  have := HC.out
  simp at this ⊢
  omega
end Go.Proofs.Ytdfncgfcggpgdaa
