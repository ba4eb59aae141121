/-
  Contract of crossbar.Greatest.
-/
import Derived.Test.YtldgpdgoccccpaaBarKuhn
import Derived.Test.YtldgpdgoccccpaaBarMatch
import Derived.Laws.EntriesVeiled
import Derived.Laws.Tables
namespace Go.Proofs.Ytldgpdgoccccpaa
open Go.RowKit
set_option linter.unusedVariables false

def GrtPost (W : World) (rs : List (RowOf Bool)) (e : Ending) (w : World) : Prop := ∃ r : Nat, e = .returned (.tuple #[.int .i64 r, .int .i64 0]) ∧ Bar.Great (reqF rs) rs.length r ∧ r ≤ 8 ∧ Below W.heap.size W w
set_option maxHeartbeats 1000000 in
theorem greatest_bad (W : World) (a0 : Option Addr) (c0 : Nat) (rs : List (RowOf Bool)) (h : Req W a0 rs) (hm : rs.length ≤ maxLen) (hmm : ∀ r ∈ rs, r.xs.length ≤ maxLen) (hfm : fmB rs = false) :
    Calls Try.prog 24 #[.slice a0 rs.length c0] W fun e w => e = .returned (.tuple #[.int .i64 0, .int .i64 1]) ∧ Below W.heap.size W w := by
  have b0 : Below W.heap.size W (W.alloc (.cells #[.slice a0 rs.length c0] 25)) := (Below.refl _ _).alloc (Nat.le_refl _) _
  have F := formed_any (W.alloc (.cells #[.slice a0 rs.length c0] 25)) a0 c0 rs (h.below b0) hm hmm
  rw [hfm] at F
  have F1 := Lib.hid F; have B0 := Lib.hid b0
  clear h hm hmm hfm F b0
  go_enter Try.func24, Try.ntmps24
  go_wp2_with fail
  go_fit F1.out
  rintro e w1 ⟨rfl, rfl⟩
  go_wp2_with fail
  go_ret2
  exact ⟨rfl, B0.out⟩

theorem Upd.setRow (w : World) (g : Nat) (cs : Array Value) : Upd (fun j => j = g) w (w.setRow g cs) := ⟨rfl, rfl, rfl, by simp, fun k _ hs => setRow_other w g k cs hs⟩
def GR1 (W : World) (n : Nat) (a0 : Option Addr) (c0 : Nat) (i : Value) (w : World) : Prop :=
  ∃ k : Nat, k ≤ 8 ∧ i = .int .i64 k ∧ Fun w (W.heap.size + 1 + 1) 59 8 (iF (mF k)) ∧ Blk w W.heap.size 25 [.slice a0 n c0] ∧ Blk w (W.heap.size + 1) 3 [.int .i64 n] ∧ Below W.heap.size W w

def GR2 (W : World) (nb rb tb hb ab : Nat) (a0 : Option Addr) (c0 n : Nat) (rs : List (RowOf Bool)) (cv iv : Value) (w : World) : Prop :=
  ∃ (i c : Nat) (t : Nat → Bool) (h : Nat → Int), i ≤ n ∧ iv = .int .i64 i ∧ cv = .int .i64 c ∧ AugAt w nb rb tb hb ab a0 c0 n rs t h ∧ Bar.Kuhn (reqF rs) n i c h ∧ Below W.heap.size W w
set_option maxHeartbeats 8000000 in
set_option maxRecDepth 100000 in
theorem greatest_ok (W : World) (a0 : Option Addr) (c0 : Nat) (rs : List (RowOf Bool)) (h : Req W a0 rs) (hm : rs.length ≤ maxLen) (hmm : ∀ r ∈ rs, r.xs.length ≤ maxLen) (hfm : fmB rs = true) :
    Calls Try.prog 24 #[.slice a0 rs.length c0] W (GrtPost W rs) := by
  obtain ⟨h8, hrow⟩ := fmB_true hfm
  have b0 : Below W.heap.size W (W.alloc (.cells #[.slice a0 rs.length c0] 25)) := (Below.refl _ _).alloc (Nat.le_refl _) _
  have F := formed_any (W.alloc (.cells #[.slice a0 rs.length c0] 25)) a0 c0 rs (h.below b0) hm hmm
  rw [hfm] at F
  have F1 := Lib.hid F; have B0 := Lib.hid b0; have RQ := Lib.hid h; have HROW := Lib.hid hrow
  clear h hm hmm hfm F b0 hrow
  unfold GrtPost
  generalize hn : rs.length = n at *
  have HN := Lib.hid hn; clear hn
  go_enter Try.func24, Try.ntmps24
  go_wp2_with fail
  go_fit F1.out
  rintro e w1 ⟨rfl, rfl⟩
  have I0 : Hid (GR1 W n a0 c0 (.int .i64 0) (((W.alloc (.cells #[.slice a0 n c0] 25)).alloc (.cells #[.int .i64 n] 3)).alloc (.cells #[.int .i64 0, .int .i64 0, .int .i64 0, .int .i64 0, .int .i64 0, .int .i64 0, .int .i64 0, .int .i64 0] 59))) := by
    refine ⟨0, Nat.zero_le _, rfl, ?_, ((Blk.new W _ [.slice a0 n c0]).alloc _).alloc _, ?_, ((((Below.refl _ W).alloc (Nat.le_refl _) _).alloc (by simp) _).alloc (by simp; omega) _)⟩
    · have := Blk.new ((W.alloc (.cells #[.slice a0 n c0] 25)).alloc (.cells #[.int .i64 n] 3)) 59 [.int .i64 0, .int .i64 0, .int .i64 0, .int .i64 0, .int .i64 0, .int .i64 0, .int .i64 0, .int .i64 0]
      rw [World.size_alloc, World.size_alloc] at this
      exact this
    · have := (Blk.new (W.alloc (.cells #[.slice a0 n c0] 25)) 3 [.int .i64 n]).alloc (.cells #[.int .i64 0, .int .i64 0, .int .i64 0, .int .i64 0, .int .i64 0, .int .i64 0, .int .i64 0, .int .i64 0] 59)
      rw [World.size_alloc] at this
      exact this
  go_wp2_with fail
  go_loopw [16] (fun i w => GR1 W n a0 c0 i w) (fun i _ => 8 - (intOf i).toNat)
  case atStart => exact I0.out
  case round =>
    clear I0
    obtain ⟨k, hk, rfl, hF, hR, hNc, hB⟩ := hrel
    have F := Lib.hid hF; have R := Lib.hid hR; have NC := Lib.hid hNc; have B := Lib.hid hB
    clear hF hR hNc hB
    by_cases hlt : k < 8
    · have y3 : wr.cell? ⟨W.heap.size + 1 + 1, k, none⟩ = some (iF (mF k) k) := F.out.cell hlt
      have y4 := F.out.free k
      have k8 : (k : Int) < 8 := by omega
      have FIN : Hid (Fun (wr.setCell ⟨W.heap.size + 1 + 1, k, none⟩ (.int .i64 (-1))) (W.heap.size + 1 + 1) 59 8 (iF (mF (k + 1))) ∧ Blk (wr.setCell ⟨W.heap.size + 1 + 1, k, none⟩ (.int .i64 (-1))) W.heap.size 25 [.slice a0 n c0] ∧ Blk (wr.setCell ⟨W.heap.size + 1 + 1, k, none⟩ (.int .i64 (-1))) (W.heap.size + 1) 3 [.int .i64 n] ∧ Below W.heap.size W (wr.setCell ⟨W.heap.size + 1 + 1, k, none⟩ (.int .i64 (-1)))) := by
        refine ⟨?_, R.out.setO _ (by simp; omega), NC.out.setO _ (by simp), B.out.setCell (p := ⟨W.heap.size + 1 + 1, k, none⟩) (by simp; omega) _⟩
        rw [← mF_succ, ← iF_upd]
        exact F.out.set hlt _
      go_wp2_with fail
      go_roundw
      case rel => exact ⟨k + 1, by omega, by go_num, FIN.out⟩
      case measure => simp [intOf]; omega
    · obtain rfl : k = 8 := by omega
      rw [show ((8 : Nat) : Int) = 8 from rfl]
      have hFl := F.out.lt
      have b1 : Below wr.heap.size wr (wr.alloc (.cells #[.bool false, .bool false, .bool false, .bool false, .bool false, .bool false, .bool false, .bool false] 62)) := (Below.refl _ _).alloc (Nat.le_refl _) _
      have b2 : Below wr.heap.size wr ((wr.alloc (.cells #[.bool false, .bool false, .bool false, .bool false, .bool false, .bool false, .bool false, .bool false] 62)).alloc (.cells #[.func (.func 36) #[] #[.pointer (some ⟨W.heap.size + 1, 0, none⟩), .pointer (some ⟨W.heap.size, 0, none⟩), .pointer (some ⟨wr.heap.size, 0, none⟩), .pointer (some ⟨W.heap.size + 1 + 1, 0, none⟩), .pointer (some ⟨wr.heap.size + 1, 0, none⟩)]] 69)) := b1.alloc (by simp) _
      have AG : Hid (AugAt ((wr.alloc (.cells #[.bool false, .bool false, .bool false, .bool false, .bool false, .bool false, .bool false, .bool false] 62)).alloc (.cells #[.func (.func 36) #[] #[.pointer (some ⟨W.heap.size + 1, 0, none⟩), .pointer (some ⟨W.heap.size, 0, none⟩), .pointer (some ⟨wr.heap.size, 0, none⟩), .pointer (some ⟨W.heap.size + 1 + 1, 0, none⟩), .pointer (some ⟨wr.heap.size + 1, 0, none⟩)]] 69)) (W.heap.size + 1) W.heap.size wr.heap.size (W.heap.size + 1 + 1) (wr.heap.size + 1) a0 c0 n rs (fun _ => false) (fun _ => -1)) := by
        refine ⟨NC.out.upd (S := fun _ => False) (Upd.of_below b2) id, R.out.upd (S := fun _ => False) (Upd.of_below b2) id, ?_, ?_, ?_, RQ.out.below (B.out.trans (b2.mono B.out.size)), ?_⟩
        · have : Blk (wr.alloc (.cells #[.bool false, .bool false, .bool false, .bool false, .bool false, .bool false, .bool false, .bool false] 62)) wr.heap.size 62 [.bool false, .bool false, .bool false, .bool false, .bool false, .bool false, .bool false, .bool false] := Blk.new wr _ _
          exact this.alloc _
        · exact (F.out.congr fun j hj => by simp [iF, mF, hj]).upd (S := fun _ => False) (Upd.of_below b2) id
        · have := Blk.new (wr.alloc (.cells #[.bool false, .bool false, .bool false, .bool false, .bool false, .bool false, .bool false, .bool false] 62)) 69 [.func (.func 36) #[] #[.pointer (some ⟨W.heap.size + 1, 0, none⟩), .pointer (some ⟨W.heap.size, 0, none⟩), .pointer (some ⟨wr.heap.size, 0, none⟩), .pointer (some ⟨W.heap.size + 1 + 1, 0, none⟩), .pointer (some ⟨wr.heap.size + 1, 0, none⟩)]]
          rw [World.size_alloc] at this
          exact this
        · refine ⟨by omega, by omega, by omega, by omega, by omega, by omega, by omega, ?_⟩
          exact RQ.out.off (S := fun _ => False) ⟨fun _ => id, fun _ _ _ => id⟩ fun j hj => by rcases hj with rfl | rfl <;> exact .inr (by omega)
      have BB := Lib.hid (B.out.trans (b2.mono B.out.size))
      have y0 := AG.out.hn.cell (i := 0) rfl
      have KS := Lib.hid (Bar.Kuhn.start (reqF rs) n)
      have L2 : Hid (W.heap.size + 1 + 1 < wr.heap.size) := hFl
      clear b1 b2 hFl F R NC
      go_wp2_with fail
      clear y0
      generalize ((wr.alloc (.cells #[.bool false, .bool false, .bool false, .bool false, .bool false, .bool false, .bool false, .bool false] 62)).alloc (.cells #[.func (.func 36) #[] #[.pointer (some ⟨W.heap.size + 1, 0, none⟩), .pointer (some ⟨W.heap.size, 0, none⟩), .pointer (some ⟨wr.heap.size, 0, none⟩), .pointer (some ⟨W.heap.size + 1 + 1, 0, none⟩), .pointer (some ⟨wr.heap.size + 1, 0, none⟩)]] 69)) = w2 at *
      generalize wr.heap.size = tb at *
      go_loopw [9, 24] (fun c i w => GR2 W (W.heap.size + 1) W.heap.size tb (W.heap.size + 1 + 1) (tb + 1) a0 c0 n rs c i w) (fun _ i _ => n - (intOf i).toNat)
      case atStart => exact ⟨0, 0, _, _, Nat.zero_le _, rfl, rfl, AG.out, KS.out, BB.out⟩
      case round =>
        clear AG KS BB
        obtain ⟨i, c, t, h, hi, rfl, rfl, hA, hK, hB⟩ := hrel
        have A := Lib.hid hA; have K := Lib.hid hK; have B2 := Lib.hid hB
        have hcn : c ≤ n := by have := hK.size; have := Bar.cnt_le n (fun k => decide (0 ≤ h k)); omega
        clear hA hK hB
        by_cases hlt' : i < n
        · have HT : Hid (wr.heap[tb]? = some (.cells ((List.range 8).map (bF t)).toArray 62 (0, 0))) := A.out.ht
          have u1 : Upd (fun j => j = tb) wr (wr.setRow tb #[.bool false, .bool false, .bool false, .bool false, .bool false, .bool false, .bool false, .bool false]) := Upd.setRow _ _ _
          have A2 : Hid (AugAt (wr.setRow tb #[.bool false, .bool false, .bool false, .bool false, .bool false, .bool false, .bool false, .bool false]) (W.heap.size + 1) W.heap.size tb (W.heap.size + 1 + 1) (tb + 1) a0 c0 n rs (fun _ => false) h) := by
            have ne := A.out.ne
            refine ⟨A.out.hn.upd u1 ne.2.1, A.out.hr.upd u1 ne.2.2.2.1, setRow_heap _ _ _ _ _ _ HT.out, A.out.hh.upd u1 (fun e => ne.1 e.symm), A.out.ha.upd u1 ne.2.2.2.2.2.1, A.out.rq.upd u1 ⟨fun h1 h2 => ne.2.2.2.2.2.2.2.1 h1 (.inl h2), fun r hr h1 h2 => ne.2.2.2.2.2.2.2.2 r hr h1 (.inl h2)⟩, ne⟩
          have lt2 := L2.out
          have htW : W.heap.size ≤ tb := by omega
          have B3 : Hid (Below W.heap.size W (wr.setRow tb #[.bool false, .bool false, .bool false, .bool false, .bool false, .bool false, .bool false, .bool false])) := Upd.below B2.out u1 B2.out.size fun k hk => by omega
          clear u1 lt2
          have ca := A2.out.ha.cell (i := 0) rfl
          have AU := Lib.hid (aug_any (W.heap.size + 1) W.heap.size tb (W.heap.size + 1 + 1) (tb + 1) a0 c0 n rs HN.out HROW.out h8 _ _ i _ h (Nat.le_refl _) A2.out (K.out.pre hlt') hlt')
          go_wp2_with (refine wpList_store_row rfl 62 (.tmp 7) (.tmp 27) rfl tb #[.bool false, .bool false, .bool false, .bool false, .bool false, .bool false, .bool false, .bool false] rfl rfl 62 _ HT.out (by kernel_rfl) rfl (by kernel_rfl) ?_)
          go_fit AU.out
          rintro e w3 ⟨b, t2, h2, rfl, hA3, hE, hU⟩
          have A3 := Lib.hid hA3
          have B4 : Hid (Below W.heap.size W w3) := Upd.below B3.out hU B3.out.size fun k hk => by omega
          cases b with
          | true =>
            have K2 := Lib.hid (K.out.succ hlt' (by unfold AugEnd at hE; rw [if_pos rfl] at hE; exact hE))
            clear hA3 hE hU ca
            go_wp2_with fail
            go_roundw
            case rel => exact ⟨i + 1, c + 1, t2, h2, by omega, by go_num, by go_num, A3.out, K2.out, B4.out⟩
            case measure => simp [intOf]; omega
          | false =>
            unfold AugEnd at hE; rw [if_neg (by simp)] at hE
            obtain ⟨rfl, hF⟩ := hE
            have K2 := Lib.hid (K.out.fail hlt' hF)
            clear hA3 hF hU ca
            go_wp2_with fail
            go_roundw
            case rel => exact ⟨i + 1, c, t2, h2, by omega, by go_num, rfl, A3.out, K2.out, B4.out⟩
            case measure => simp [intOf]; omega
        · obtain rfl : n = i := by omega
          have G := Lib.hid K.out.great
          go_wp2_with fail
          go_ret2
          exact ⟨c, rfl, G.out, by omega, B2.out⟩
end Go.Proofs.Ytldgpdgoccccpaa
