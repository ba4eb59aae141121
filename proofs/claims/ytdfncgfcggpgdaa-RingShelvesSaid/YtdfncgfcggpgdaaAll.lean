/-
  Contracts of All and of its iterator.
-/
import Derived.Test.YtdfncgfcggpgdaaAwake
import Derived.Test.YtdfncgfcggpgdaaSlices
import Derived.RangeFuncBox
import Derived.RangeFuncLeaves
import Derived.Shelf.Abstract
import Derived.OwnWalkIn
import Derived.TacticsInMore
import Derived.LoopNIn
import Derived.LoopIn
import Derived.Maps.AppendAt
namespace Go.Proofs.Ytdfncgfcggpgdaa
open Go.RowKit Go.Shelf
set_option linter.unusedVariables false
attribute [local go_sem] Oper.semAt_some

/-- What a round keeps: every block of cells but the box and what the box's value owns. -/
structure KpB (box : Nat) (A B : World) : Prop where
  size : A.heap.size ≤ B.heap.size
  own : ∀ v' g, B.cell? ⟨box, 0, none⟩ = some v' → v'.ownBlock = some g → (∃ v, A.cell? ⟨box, 0, none⟩ = some v ∧ v.ownBlock = some g) ∨ A.heap.size ≤ g
  same : ∀ k o, A.heap[k]? = some o → o.isCells = true → k ≠ box → (∀ v, A.cell? ⟨box, 0, none⟩ = some v → v.ownBlock ≠ some k) → B.heap[k]? = some o
theorem lt_of_get {A : World} {k : Nat} {o : Obj} (h : A.heap[k]? = some o) : k < A.heap.size := (Array.getElem?_eq_some_iff.1 h).1
theorem KpB.trans {box : Nat} {A B C : World} (h : KpB box A B) (k : KpB box B C) : KpB box A C := by
  refine ⟨Nat.le_trans h.size k.size, fun v' g hv hg => ?_, fun i o hi ho hb hn => ?_⟩
  · rcases k.own v' g hv hg with ⟨v, h1, h2⟩ | h1
    · exact h.own v g h1 h2
    · exact .inr (Nat.le_trans h.size h1)
  · refine k.same i o (h.same i o hi ho hb hn) ho hb (fun v hv e => ?_)
    rcases h.own v i hv e with ⟨v2, h1, h2⟩ | h1
    · exact hn v2 h1 h2
    · have := lt_of_get hi; omega
theorem KpB.putObj {box : Nat} {w : World} (hb : box < w.heap.size) (W : World) (l : Nat) (o o' : Obj) (hl : w.heap.size ≤ l) (h : W.heap[l]? = some o) (hc : o.isCells = false) (_ : o.isWalk = false) : KpB box W (W.putObj l o') := by
  have e : ∀ k, k ≠ l → (W.putObj l o').heap[k]? = W.heap[k]? := fun k hk => World.putObj_heap_other hk
  refine ⟨by simp, fun v' g hv hg => .inl ⟨v', ?_, hg⟩, fun k o2 hk ho hkb _ => ?_⟩
  · rw [← hv]; exact (World.cell?_of_block (e box (by omega))).symm
  · by_cases hkl : k = l
    · subst hkl
      rw [h] at hk
      obtain rfl := Option.some.inj hk
      rw [hc] at ho; simp at ho
    · rw [e k hkl]; exact hk
def prs (zs : List Int) (k : Nat) : List (Nat × Int) := (List.range k).map fun j => (j, zs[j]?.getD 0)
theorem prs_succ (zs : List Int) (k : Nat) : prs zs (k + 1) = prs zs k ++ [(k, zs[k]?.getD 0)] := by simp [prs, List.range_succ]
theorem prs_len (zs : List Int) (k : Nat) : (prs zs k).length = k := by simp [prs]
theorem prs_vals (zs : List Int) : (prs zs zs.length).map (·.2) = zs := by
  apply List.ext_getElem
  · simp [prs]
  · intro i h1 h2
    simp [prs, h2]
def ClM (box : Nat) (ac : Option Addr) (zs : List Int) (wr : World) : Prop :=
  zs ≠ [] → ∃ g sp, ac = some ⟨g, 0, none⟩ ∧ Blk wr g 3 (zs.map (Value.int .i64) ++ sp) ∧ g ≠ box ∧ ∀ v, wr.cell? ⟨box, 0, none⟩ = some v → v.ownBlock ≠ some g
theorem ClM.next {box : Nat} {ac : Option Addr} {zs : List Int} {wr w3 : World} (h : ClM box ac zs wr) (k : KpB box wr w3) : ClM box ac zs w3 := fun hz => by
  obtain ⟨g, sp, h1, h2, h3, h4⟩ := h hz
  refine ⟨g, sp, h1, k.same g _ h2 rfl h3 h4, h3, fun v hv e => ?_⟩
  rcases k.own v g hv e with ⟨v2, h5, h6⟩ | h5
  · exact h4 v2 h5 h6
  · have := h2.lt; omega
theorem all_in (p : Option Addr) (w : World) (n : Nat) :
    CallsIn Fence.wide n Try.prog 32 #[.pointer p] w fun e w' => e = .returned (.func (.func 44) #[] #[.pointer (some ⟨w.heap.size, 0, none⟩)]) ∧ w' = w.alloc (.cells #[.pointer p] 46) := by
  refine callsIn_of_wp Try.func32 rfl trivial ?_ rfl
  simp only [Try.ntmps32, List.size_toArray, List.length_cons, List.length_nil, Nat.reduceAdd, Nat.reduceSub, Array.replicate_succ, Array.replicate_zero, List.push_toArray, List.append_toArray, List.nil_append, List.cons_append]
  gi_wp2
  go_ret
  exact ⟨rfl, rfl⟩
theorem all1_nil (n : Nat) (l Bs : Nat) (W : World) (hBs : W.cell? ⟨Bs, 0, none⟩ = some (.pointer none)) (J : List (Nat × Int) → World → Prop) (h0 : J [] W) :
    CallsIn Fence.wide n Try.prog 44 #[.func (.yield l) #[] #[], .pointer (some ⟨Bs, 0, none⟩)] W fun e W' => (∃ v, e = .returned v) ∧ J [] W' := by
  refine callsIn_of_wp Try.func44 rfl trivial ?_ rfl
  simp only [Try.ntmps44, List.size_toArray, List.length_cons, List.length_nil, Nat.reduceAdd, Nat.reduceSub, Array.replicate_succ, Array.replicate_zero, List.push_toArray, List.append_toArray, List.nil_append, List.cons_append]
  gi_wp2
  refine bodyPost_ret (results_none rfl _ _ _) rfl ?_
  exact ⟨⟨_, rfl⟩, h0⟩
set_option maxRecDepth 100000 in
set_option maxHeartbeats 2000000 in
theorem all1_in (n : Nat) (hn : 1 ≤ n) (l Bs box base b room : Nat) (v : Value) (zs : List Int) (W : World) (hR : RingAt (Value.int .i64) 3 88 W base b room v zs) (hBs : W.cell? ⟨Bs, 0, none⟩ = some (.pointer (some ⟨b, 0, none⟩))) (hlen : zs.length ≤ 1000)
    (hbox : box < W.heap.size) (hown : ∀ v, W.cell? ⟨box, 0, none⟩ = some v → v.ownBlock = none) (J Jx : List (Nat × Int) → World → Prop) (hJa : AbidesFrom W.heap.size J)
    (hY : ∀ pre x W1, J pre W1 → pre.length < zs.length → YieldAt Fence.wide (n - 1) Try.prog l #[.int .i64 (x.1 : Int), .int .i64 x.2] W1 fun e W' =>
      (e = .returned (.bool true) ∧ J (pre ++ [x]) W' ∧ KpB box W1 W') ∨ (e = .returned (.bool false) ∧ Jx (pre ++ [x]) W')) (h0 : J [] W) :
    CallsIn Fence.wide n Try.prog 44 #[.func (.yield l) #[] #[], .pointer (some ⟨Bs, 0, none⟩)] W fun e W' => (∃ v, e = .returned v) ∧
      ((∃ ys, ys = prs zs zs.length ∧ J ys W') ∨ (∃ pre, (∃ k, k ≤ zs.length ∧ pre = prs zs k) ∧ Jx pre W')) := by
  obtain ⟨a, c, rfl, _⟩ := own_shape hR.own
  have q1 := hR.hb.cell (i := 1) rfl
  have hsl : SlI W a zs := Rw.sl (Rw.of_own hR.own)
  have CL := Lib.hid (cloneInt_any W a c zs hsl (by omega))
  have HY := Lib.hid hY; have HJ := Lib.hid hJa; have HO := Lib.hid hown
  clear hR hsl hY hJa hown
  refine callsIn_of_wp Try.func44 rfl trivial ?_ rfl
  simp only [Try.ntmps44, List.size_toArray, List.length_cons, List.length_nil, Nat.reduceAdd, Nat.reduceSub, Array.replicate_succ, Array.replicate_zero, List.push_toArray, List.append_toArray, List.nil_append, List.cons_append]
  gi_wp2_with fail
  refine ⟨trivial, ?_⟩
  refine (callsIn_wide.2 CL.out).mono ?_
  rintro e W1 ⟨vc, rfl, hrw, hb⟩
  have hgr : W.grownBy W1 none := ⟨hb.os, hb.tape, hb.output, hb.size, fun k hk _ => hb.block k hk⟩
  have hJ1 : J [] W1 := HJ.out [] W W1 none h0 hgr (fun r e => by cases e)
  obtain ⟨ac, cc, rfl, hrest⟩ := hrw
  have CM : Hid (ClM box ac zs W1) := fun hz => by
    obtain ⟨g, sp, c', e, hg, hbk⟩ := Rw.pos (⟨ac, cc, rfl, hrest⟩ : Rw (Value.int .i64) 3 W1 W.heap.size _ zs) hz
    cases e
    refine ⟨g, sp, rfl, hbk, by omega, fun v hv => ?_⟩
    rw [hb.cell (p := ⟨box, 0, none⟩) hbox] at hv
    rw [HO.out v hv]
    simp
  clear hrest hb hgr CL HJ h0 q1
  gi_wp2
  gi_loopw [13] (fun i wr => ∃ k : Nat, k ≤ zs.length ∧ i = .int .i64 k ∧ J (prs zs k) wr ∧ ClM box ac zs wr)
    (fun i _ => zs.length - (intOf i).toNat)
  case atStart => exact ⟨0, Nat.zero_le _, rfl, hJ1, CM.out⟩
  case round =>
    obtain ⟨k, hk, rfl, hJs, hcm⟩ := hrel
    have CMk := Lib.hid hcm
    clear hcm
    by_cases hlt : k < zs.length
    · obtain ⟨g, sp, rfl, hbk, _, _⟩ := CMk.out (by intro e; rw [e] at hlt; simp at hlt)
      obtain ⟨z, hz⟩ : ∃ z, zs[k]? = some z := ⟨_, List.getElem?_eq_getElem hlt⟩
      have hcx : wr.cell? ⟨g, k, none⟩ = some (.int .i64 z) := hbk.cell (by rw [List.getElem?_append_left (by simpa using hlt), List.getElem?_map, hz]; rfl)
      have PS : Hid (prs zs (k + 1) = prs zs k ++ [(k, z)]) := by show _ = _; rw [prs_succ, hz]; rfl
      obtain ⟨fn, tmps, assign, body, hy, hR⟩ := HY.out _ (k, z) wr hJs (by rw [prs_len]; exact hlt)
      dsimp only at hy
      clear hbk hz
      gi_wp2
      refine hR.mono ?_
      rintro e W3 (⟨rfl, hJ3, hk3⟩ | ⟨rfl, hJx3⟩)
      · have C3 := Lib.hid (CMk.out.next hk3)
        rw [← PS.out] at hJ3
        clear hk3 hcx
        gi_wp2
        go_roundw
        case rel => exact ⟨k + 1, by omega, by simp, hJ3, C3.out⟩
        case measure => simp [intOf]; omega
      · rw [← PS.out] at hJx3
        clear hcx
        gi_wp2
        refine bodyPost_ret (results_none rfl _ _ _) rfl ?_
        exact ⟨⟨_, rfl⟩, .inr ⟨_, ⟨k + 1, by omega, rfl⟩, hJx3⟩⟩
    · obtain rfl : k = zs.length := by omega
      gi_wp2
      go_end0
      exact ⟨⟨_, rfl⟩, .inl ⟨_, rfl, hJs⟩⟩
/-- The iterator of a ring yields its values with their indexes, if the rounds keep everything but a box and what it owns. -/
theorem all_stops (n : Nat) (hn : 1 ≤ n) (Bs box base b room : Nat) (v : Value) (zs : List Int) (w : World) (hR : RingAt (Value.int .i64) 3 88 w base b room v zs) (hBs : w.cell? ⟨Bs, 0, none⟩ = some (.pointer (some ⟨b, 0, none⟩))) (hlen : zs.length ≤ 1000)
    (hbox : box < w.heap.size) (hown : ∀ v, w.cell? ⟨box, 0, none⟩ = some v → v.ownBlock = none) :
    SeqStopsK Fence.wide n Try.prog 44 #[.pointer (some ⟨Bs, 0, none⟩)] (fun x : Nat × Int => #[Value.int .i64 (x.1 : Int), Value.int .i64 x.2]) (KpB box) (fun ys => ys = prs zs zs.length)
      (fun pre => ∃ k, k ≤ zs.length ∧ pre = prs zs k) zs.length w := fun l J Jx W hW hJ _ hY h0 =>
  all1_in n hn l Bs box base b room v zs W (hR.below hW) (by rw [hW.cell (p := ⟨Bs, 0, none⟩) (World.block_lt_of_cell? _ _ hBs)]; exact hBs) hlen (Nat.lt_of_lt_of_le hbox hW.size) (fun u hu => hown u (by rw [← hW.cell (p := ⟨box, 0, none⟩) hbox]; exact hu)) J Jx hJ hY h0
theorem all_stops_nil (n : Nat) (Bs : Nat) (Kp : World → World → Prop) (w : World) (hBs : w.cell? ⟨Bs, 0, none⟩ = some (.pointer none)) :
    SeqStopsK Fence.wide n Try.prog 44 #[.pointer (some ⟨Bs, 0, none⟩)] (fun x : Nat × Int => #[Value.int .i64 (x.1 : Int), Value.int .i64 x.2]) Kp (fun ys => ys = prs [] 0)
      (fun pre => ∃ k, k ≤ 0 ∧ pre = prs [] k) 0 w := fun l J Jx W hW hJ _ hY h0 =>
  (all1_nil n l Bs W (by rw [hW.cell (p := ⟨Bs, 0, none⟩) (World.block_lt_of_cell? _ _ hBs)]; exact hBs) J h0).mono fun e W' ⟨he, hj⟩ => ⟨he, .inl ⟨_, rfl, hj⟩⟩
end Go.Proofs.Ytdfncgfcggpgdaa
