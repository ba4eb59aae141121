/-
  A gate on forms of messages; the reference's Form.
-/
import Derived.Test.YtjljjohoipnhhaaMsg
import Derived.Test.YtjljjohoipnhhaaGateD
namespace Go.Proofs.Ytjljjohoipnhhaa
open Go.RowKit
set_option linter.unusedVariables false

theorem len2_form (i : Nat) (d r : List Int) : len2 (form i d ++ r) = d.length := by
  unfold len2 form at0
  simp
  omega
theorem num3_form (i : Nat) (d r : List Int) (hi : i ≤ 16777215) : num3 (form i d ++ r) = i := by
  unfold num3 form at0
  simp
  omega
theorem gate_form (i : Nat) (d r : List Int) (last : Int) (h1 : 1 ≤ d.length) (h2 : d.length ≤ 1000) (hi : i ≤ 16777215) (hl : last < i) :
    gate (form i d ++ r) last = ⟨d :: (gate r i).out, (gate r i).rest, (gate r i).last, (gate r i).bad⟩ := by
  have hlen : (form i d ++ r).length = d.length + 5 + r.length := by rw [List.length_append, form_len]
  have e1 : ¬ (form i d ++ r).length < 2 := by omega
  have e2 : badB (form i d ++ r) last = false := by
    unfold badB numOf
    rw [len2_form, num3_form i d r hi, if_pos (by omega)]
    rw [decide_eq_false (by omega : ¬ (d.length : Int) < 1), decide_eq_false (by omega : ¬ (1000 : Int) < (d.length : Int)), decide_eq_false (by omega : ¬ (i : Int) ≤ last)]
    rfl
  have e3 : shortB (form i d ++ r) = false := by
    unfold shortB
    rw [len2_form, hlen]
    exact decide_eq_false (by omega)
  rw [gate_one e1 e2 e3, len2_form, num3_form i d r hi, Int.toNat_natCast]
  have d5 : (form i d ++ r).drop 5 = d ++ r := rfl
  have d6 : (form i d ++ r).drop (5 + d.length) = r := by rw [← List.drop_drop, d5, List.drop_left]
  rw [d5, d6, List.take_left]
theorem gate_form0 (i : Nat) (d : List Int) (last : Int) (h1 : 1 ≤ d.length) (h2 : d.length ≤ 1000) (hi : i ≤ 16777215) (hl : last < i) : gate (form i d) last = ⟨[d], [], i, false⟩ := by
  have := gate_form i d [] last h1 h2 hi hl
  rw [List.append_nil] at this
  rw [this]
  rfl
theorem form_isB (i : Nat) (d : List Int) (hi : i ≤ 16777215) (hd : IsB d) (hl : d.length ≤ 1000) : IsB (form i d) := by
  intro y hy
  unfold form at hy
  simp only [List.mem_cons] at hy
  rcases hy with rfl | rfl | rfl | rfl | rfl | hy
  all_goals first | exact hd y hy | omega

set_option maxHeartbeats 4000000 in
set_option maxRecDepth 100000 in
theorem form_any (w : World) (i : Nat) (hi : i ≤ 16777215) (a : Option Addr) (c : Nat) (d : List Int) (hd : Sl (Value.int .u8) w a d) (hl : d.length ≤ 1000) :
    Calls Try.prog 28 #[.int .i64 i, .slice a d.length c] w fun e w' => ∃ v, e = .returned v ∧ Vw (Value.int .u8) 5 w' w.heap.size v (form i d) ∧ Below w.heap.size w w' := by
  obtain ⟨i0, hi0, hz0, hz1, hz2⟩ := info_parts Try.infoByte
  have HI := Lib.hid hi0; have HZ0 := Lib.hid hz0; have HZ1 := Lib.hid hz1; have HZ2 := Lib.hid hz2
  have S := Lib.hid hd
  clear hi0 hz0 hz1 hz2 hd
  go_enter Try.func28, Try.ntmps28
  have BL : Hid (Below w.heap.size w (w.alloc (.cells #[.int .u8 ((d.length : Int) / 256), .int .u8 ((d.length : Int) % 256), .int .u8 ((i : Int) / 65536), .int .u8 ((i : Int) / 256 % 256), .int .u8 ((i : Int) % 256)] 5))) := (Below.refl _ _).alloc (Nat.le_refl _) _
  have VB : Hid (Vw (Value.int .u8) 5 (w.alloc (.cells #[.int .u8 ((d.length : Int) / 256), .int .u8 ((d.length : Int) % 256), .int .u8 ((i : Int) / 65536), .int .u8 ((i : Int) / 256 % 256), .int .u8 ((i : Int) % 256)] 5)) w.heap.size (.slice (some ⟨w.heap.size, 0, none⟩) 5 5) [(d.length : Int) / 256, (d.length : Int) % 256, (i : Int) / 65536, (i : Int) / 256 % 256, (i : Int) % 256]) :=
    .inr ⟨w.heap.size, 0, 5, rfl, Nat.le_refl _, by simp, Nat.le_refl _, by unfold maxLen; decide, .inr ⟨[], [], rfl, Blk.new w 5 [.int .u8 ((d.length : Int) / 256), .int .u8 ((d.length : Int) % 256), .int .u8 ((i : Int) / 65536), .int .u8 ((i : Int) / 256 % 256), .int .u8 ((i : Int) % 256)], rfl⟩⟩
  go_wp2_with (at_builtin; refine wpList_append_vw rfl _ _ 22 rfl w.heap.size 5 i0 _ 1 Try.underlying22 HI.out HZ0.out HZ1.out HZ2.out rfl (Value.int .u8) (fun _ => rfl) (.slice (some ⟨w.heap.size, 0, none⟩) 5 5) [(d.length : Int) / 256, (d.length : Int) % 256, (i : Int) / 65536, (i : Int) / 256 % 256, (i : Int) % 256] rfl VB.out a c d rfl (S.out.below BL.out) ?c1 ?c2 ?c3 ?_)
  case c1 => unfold maxLen; simp only [List.length_cons, List.length_nil]; omega
  case c2 => simp only [List.length_cons, List.length_nil]; omega
  case c3 => simp
  intro v' w2 g1 g2 g3
  have V2 : Hid (Vw (Value.int .u8) 5 w2 w.heap.size v' (form i d)) := g1
  have B2 : Hid (Below w.heap.size w w2) := Upd.below BL.out g2 (by simp) fun k hk => by simp [Value.ownBlock] at hk; omega
  clear g1 g2 g3 VB
  go_wp2_with fail
  go_ret
  exact ⟨_, rfl, V2.out, B2.out⟩
end Go.Proofs.Ytjljjohoipnhhaa
