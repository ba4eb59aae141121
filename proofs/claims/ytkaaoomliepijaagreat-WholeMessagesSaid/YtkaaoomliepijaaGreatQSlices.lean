/-
  Contracts of functions of package slices, at the element types that this program uses.
-/
import Derived.Test.YtkaaoomliepijaaGreatQVw
namespace Go.Proofs.YtkaaoomliepijaaGreat
open Go.RowKit

theorem Tryz.infoByte : (Tryz.prog.info? 5).map (fun i => (i.zero, i.size, i.bytes)) = some (some (.int .u8 0), 1, 1) := by kernel_rfl

set_option maxHeartbeats 1000000 in
theorem cloneByte_any (w : World) (a : Option Addr) (c : Nat) (xs : List Int) (hs : Sl (Value.int .u8) w a xs) (hl : xs.length ≤ 1000000) :
    Calls Tryz.prog 55 #[.slice a xs.length c] w fun e w' => ∃ v, e = .returned v ∧ Rw (Value.int .u8) 5 w' w.heap.size v xs ∧ Below w.heap.size w w' := by
  show Calls _ _ _ _ (RwPost (Value.int .u8) 5 w xs)
  cases a with
  | none =>
    have h0 : xs = [] := by
      match xs, hs with
      | [], _ => rfl
      | x :: l, hs => exact absurd (hs 0 x rfl).1 (by simp [okAd])
    subst h0
    have he := fun w => Lib.run_eql_slice_nil (P := Tryz.prog) w 22 _ none 0 c 0 0 Tryz.underlying22
    go_enter Tryz.func55, Tryz.ntmps55
    go_wp2
    go_ret
    exact ⟨_, rfl, Rw.nil _ _ _ _, Below.refl _ _⟩
  | some ad =>
    have he := fun w => Lib.run_eql_slice_nil (P := Tryz.prog) w 22 _ (some ad) xs.length c 0 0 Tryz.underlying22
    have hl1 := Lib.hid hl
    have HS := Lib.hid hs
    clear hs hl
    obtain ⟨i0, hi, hz0, hz1, hz2⟩ := info_parts Tryz.infoByte
    have HI := Lib.hid hi; have HZ0 := Lib.hid hz0; have HZ1 := Lib.hid hz1; have HZ2 := Lib.hid hz2
    clear hi hz0 hz1 hz2
    go_enter Tryz.func55, Tryz.ntmps55
    go_wp2_with (at_builtin; refine wpList_append_own _ rfl _ _ 22 rfl w.heap.size 5 i0 _ 1 1 Tryz.underlying22 HI.out HZ0.out HZ1.out HZ2.out rfl (by decide) _ 0 [] rfl ?c0 ad xs.length c (xs.map (Value.int .u8)) rfl ?c1 ?c2 ?c3 ?c4 ?c5 ?c6 ?_)
    case c0 => exact own_empty _ _ _
    case c1 => simp
    case c2 => exact (HS.out.below ((Below.refl _ _).alloc (Nat.le_refl _) _)).news
    case c3 => exact one_map _ (fun _ => rfl) _
    case c4 => have := hl1.out; unfold maxLen; omega
    case c5 => have := hl1.out; omega
    case c6 => simp
    intro v' w1 hown hgr hnil
    have R := Rw.of_own (f := (Value.int .u8)) (by simpa using hown)
    have B : Below w.heap.size w w1 := ((Below.refl _ _).alloc (Nat.le_refl _) _).grown hgr (by simp) (by intro k hk; simp [Value.ownBlock] at hk; omega)
    have HR := Lib.hid R
    clear hown hgr hnil R
    go_wp2
    go_ret
    exact ⟨_, rfl, HR.out, B⟩

end Go.Proofs.YtkaaoomliepijaaGreat
