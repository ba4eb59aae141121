/-
  Contract of the reference's Match.
-/
import Derived.Test.YtldgpdgoccccpaaBarRefR
namespace Go.Proofs.Ytldgpdgoccccpaa
open Go.RowKit
set_option linter.unusedVariables false

def RmPost (W : World) (rb gb ab n : Nat) (s : Bar.St) (e : Ending) (w : World) : Prop :=
  ∃ v b, e = .returned v ∧ Cp w v (mL n s.m) b ∧ RefAt w rb gb ab n s.g s.a ∧ Upd (fun j => j = gb ∨ j = ab) W w
structure Rm (W : World) (rb gb ab n b : Nat) (c : Nat) (sp : List Value) (s : Bar.St) (w : World) : Prop where
  blk : Blk w b 3 ((mL n s.m).map (Value.int .i64) ++ sp)
  ref : RefAt w rb gb ab n s.g s.a
  upd : Upd (fun j => j = gb ∨ j = ab) W w
  hb : W.heap.size ≤ b
def RmR1 (W : World) (n : Nat) (i : Value) (w : World) : Prop := ∃ k : Nat, k ≤ n ∧ i = .int .i64 k ∧ Fun w W.heap.size 3 n (iF (mF k)) ∧ Below W.heap.size W w
def RmR2 (W : World) (rb gb ab n r : Nat) (req : Nat → Nat → Bool) (s : Bar.St) (v i : Value) (w : World) : Prop :=
  ∃ (k b c : Nat) (sp : List Value), k ≤ r ∧ i = .int .i64 k ∧ v = .slice (some ⟨b, 0, none⟩) n c ∧ Rm W rb gb ab n b c sp (Bar.rounds req n s k) w

set_option maxHeartbeats 8000000 in
set_option maxRecDepth 100000 in
theorem refmatch_any (W : World) (rb gb ab n r : Nat) (g a : Nat → Nat) (a0 : Option Addr) (c0 : Nat) (rs : List (RowOf Bool)) (h : RefAt W rb gb ab n g a) (hq : Req W a0 rs)
    (hl : rs.length = n) (hrow : ∀ r ∈ rs, r.xs.length = n) (h1 : 1 ≤ n) (h8 : n ≤ 8) (hr8 : r ≤ 8) (hg : ∀ k < n, g k < n) (ha : ∀ i < n, a i < n) (off : Off a0 rs (fun j => j = gb ∨ j = ab)) :
    Calls Try.prog 23 #[.pointer (some ⟨rb, 0, none⟩), .slice a0 n c0, .int .i64 r] W (RmPost W rb gb ab n (Bar.rounds (reqF rs) n (Bar.start g a) r)) := by
  have H := Lib.hid h; have RQ := Lib.hid hq; have HL := Lib.hid hl; have HROW := Lib.hid hrow; have HG := Lib.hid hg; have HA := Lib.hid ha; have OFF := Lib.hid off
  have hmi := fun w => make_ints w n (by omega)
  have lr := h.hb.lt
  have lg := h.hg.lt
  have la := h.ha.lt
  have I1 : Hid (RmR1 W n (.int .i64 0) (W.alloc (.cells ((List.replicate n 0).map (Value.int .i64)).toArray 3))) := by
    refine ⟨0, Nat.zero_le _, rfl, ?_, (Below.refl _ _).alloc (Nat.le_refl _) _⟩
    have := Blk.new W 3 ((List.replicate n 0).map (Value.int .i64))
    rw [fun_const] at this ⊢
    exact this
  generalize hLi : (List.replicate n (0 : Int)).map (Value.int .i64) = LI at hmi I1
  clear hLi h hq hl hrow hg ha off
  go_enter Try.func23, Try.ntmps23
  go_wp2_with fail
  clear hmi
  go_loopw [8] (fun i w => RmR1 W n i w) (fun i _ => n - (intOf i).toNat)
  case atStart => exact I1.out
  case round =>
    clear I1
    obtain ⟨k, hk, rfl, hF, hB⟩ := hrel
    have F := Lib.hid hF; have B := Lib.hid hB
    clear hF hB
    by_cases hlt : k < n
    · have y3 : wr.cell? ⟨W.heap.size, k, none⟩ = some (iF (mF k) k) := F.out.cell hlt
      have y4 := F.out.free k
      have kn : (k : Int) < (n : Int) := by omega
      have FIN : Hid (Fun (wr.setCell ⟨W.heap.size, k, none⟩ (.int .i64 (-1))) W.heap.size 3 n (iF (mF (k + 1))) ∧ Below W.heap.size W (wr.setCell ⟨W.heap.size, k, none⟩ (.int .i64 (-1)))) := by
        refine ⟨?_, B.out.setCell (p := ⟨W.heap.size, k, none⟩) (Nat.le_refl _) _⟩
        rw [← mF_succ, ← iF_upd]
        exact F.out.set hlt _
      go_wp2_with fail
      go_roundw
      case rel => exact ⟨k + 1, by omega, by go_num, FIN.out⟩
      case measure => simp [intOf]; omega
    · obtain rfl : n = k := by omega
      have R0 : Hid (Rm W rb gb ab n W.heap.size n [] (Bar.start g a) wr) := by
        refine ⟨?_, H.out.below B.out, Upd.of_below B.out, Nat.le_refl _⟩
        have h := F.out.congr (g := iF (Bar.start g a).m) (fun j hj => by simp [iF, mF, hj, Bar.start])
        have e : (mL n (Bar.start g a).m).map (Value.int .i64) ++ [] = (List.range n).map (iF (Bar.start g a).m) := by rw [List.append_nil, mL, List.map_map]; rfl
        rw [e]; exact h
      clear F B
      go_wp2_with fail
      go_loopw [7, 9] (fun v i w => RmR2 W rb gb ab n r (reqF rs) (Bar.start g a) v i w) (fun _ i _ => r - (intOf i).toNat)
      case atStart => exact ⟨0, W.heap.size, n, [], Nat.zero_le _, rfl, rfl, R0.out⟩
      case round =>
        clear R0 hlt hk
        obtain ⟨k, b, c, sp, hk, rfl, rfl, hR⟩ := hrel
        have R := Lib.hid hR; clear hR
        by_cases hlt : k < r
        · have O := Bar.rounds_ok (req := reqF rs) (Bar.start_ok HG.out HA.out) k
          have RD := refround_any wr rb gb ab n (Bar.rounds (reqF rs) n (Bar.start g a) k).g (Bar.rounds (reqF rs) n (Bar.start g a) k).a a0 (some ⟨b, 0, none⟩) c0 c rs (Bar.rounds (reqF rs) n (Bar.start g a) k).m (k == 0) R.out.ref (RQ.out.upd R.out.upd OFF.out) R.out.blk.sub HL.out HROW.out h1 h8 O.g O.a (fun i hi => (O.m i hi).imp id fun ⟨k, h1, h2, _⟩ => ⟨k, h1, h2⟩) OFF.out
          have es : Hid (Bar.rounds (reqF rs) n (Bar.start g a) (k + 1) = Bar.round (reqF rs) n (k == 0) (Bar.rounds (reqF rs) n (Bar.start g a) k)) := rfl
          have rt : Hid ((Bar.round (reqF rs) n (k == 0) (Bar.rounds (reqF rs) n (Bar.start g a) k)).m = (Bar.round (reqF rs) n (k == 0) (refS n (Bar.rounds (reqF rs) n (Bar.start g a) k).m (Bar.rounds (reqF rs) n (Bar.start g a) k).g (Bar.rounds (reqF rs) n (Bar.start g a) k).a)).m ∧
              (Bar.round (reqF rs) n (k == 0) (Bar.rounds (reqF rs) n (Bar.start g a) k)).g = (Bar.round (reqF rs) n (k == 0) (refS n (Bar.rounds (reqF rs) n (Bar.start g a) k).m (Bar.rounds (reqF rs) n (Bar.start g a) k).g (Bar.rounds (reqF rs) n (Bar.start g a) k).a)).g ∧
              (Bar.round (reqF rs) n (k == 0) (Bar.rounds (reqF rs) n (Bar.start g a) k)).a = (Bar.round (reqF rs) n (k == 0) (refS n (Bar.rounds (reqF rs) n (Bar.start g a) k).m (Bar.rounds (reqF rs) n (Bar.start g a) k).g (Bar.rounds (reqF rs) n (Bar.start g a) k).a)).a) := by
            refine round_t (t := (Bar.rounds (reqF rs) n (Bar.start g a) k).t) (k == 0) (fun y hy => ?_) O.a
            rw [Bool.eq_iff_iff, O.t y hy, tkF_iff]
          have hb : ((k : Int) == 0) = (k == 0) := by cases k <;> rfl
          generalize hbb : (k == 0) = bb at RD es rt hb
          generalize hrn : refS n (Bar.rounds (reqF rs) n (Bar.start g a) k).m (Bar.rounds (reqF rs) n (Bar.start g a) k).g (Bar.rounds (reqF rs) n (Bar.start g a) k).a = rS at RD rt
          have R2 := Lib.hid RD
          clear RD O hbb hrn
          go_wp2_with fail
          go_fit R2.out
          rintro e w2 ⟨v2, b2, rfl, ⟨sp2, c2, rfl, hblk⟩, hb2, hA, hU⟩
          rw [mL_len]
          have FIN : Hid (Rm W rb gb ab n b2 c2 sp2 (Bar.rounds (reqF rs) n (Bar.start g a) (k + 1)) w2) := by
            obtain ⟨t1, t2, t3⟩ := rt.out
            rw [es.out]
            have hw := R.out.upd.size
            exact ⟨by rw [t1]; exact hblk, by rw [t2, t3]; exact hA, R.out.upd.trans hU, by omega⟩
          clear hA hU hblk hb2
          go_wp2_with fail
          go_roundw
          case rel => exact ⟨k + 1, b2, c2, sp2, by omega, by go_num, rfl, FIN.out⟩
          case measure => simp [intOf]; omega
        · obtain rfl : r = k := by omega
          have M : Hid (RmPost W rb gb ab n (Bar.rounds (reqF rs) n (Bar.start g a) r) (.returned (.slice (some ⟨b, 0, none⟩) n c)) wr) := ⟨_, b, rfl, ⟨sp, c, by rw [mL_len], R.out.blk⟩, R.out.ref, R.out.upd⟩
          go_wp2_with fail
          go_ret
          exact M.out
end Go.Proofs.Ytldgpdgoccccpaa
