/-
  The route that a list of outputs describes.
-/
import Derived.Test.YtkooihniieepcaaSwT
namespace Go.Proofs.Ytkooihniieepcaa
open Go.RowKit
set_option linter.unusedVariables false

/-- The place of a destination among n outputs. -/
def outI (n : Nat) (z : Int) : Int := (wrap64 z).tmod n % n
theorem outI_lt {n : Nat} (h : 0 < n) (z : Int) : 0 ≤ outI n z ∧ outI n z < n ∧ -(n : Int) < (wrap64 z).tmod n ∧ (wrap64 z).tmod n < n := by
  have h1 : (wrap64 z).tmod n < n := Int.tmod_lt_of_pos _ (by omega)
  have h2 : -(n : Int) < (wrap64 z).tmod n := Int.lt_tmod_of_pos _ (by omega)
  unfold outI
  exact ⟨Int.emod_nonneg _ (by omega), Int.emod_lt_of_pos _ (by omega), h2, h1⟩
def rtO (os : List Int) (p : Nat) (f : Fr) : Int := os[(outI os.length (f.dst + (p : Int))).toNat]?.getD 0
set_option maxHeartbeats 2000000 in
theorem out_any (w : World) (a : Option Addr) (c0 : Nat) (os : List Int) (p : Nat) (f : Fr) (hs : SlI w a os) (h1 : 1 ≤ os.length) (h8 : os.length ≤ 8) :
    Calls Try.prog 13 #[.slice a os.length c0, .int .i64 p, frV f] w fun e w' => e = .returned (.int .i64 (rtO os p f)) ∧ Below w.heap.size w w' := by
  obtain ⟨g1, g2, g3, g4⟩ := outI_lt (n := os.length) (by omega) (f.dst + (p : Int))
  obtain ⟨z, hz⟩ : ∃ z, os[(outI os.length (f.dst + (p : Int))).toNat]? = some z := ⟨os[(outI os.length (f.dst + (p : Int))).toNat]'(by omega), by simp [show (outI os.length (f.dst + (p : Int))).toNat < os.length by omega]⟩
  have hr : rtO os p f = z := by unfold rtO; rw [hz]; rfl
  obtain ⟨fid, ffr, fds, fcl, fep⟩ := f
  obtain ⟨ha, hc⟩ := (hs.below ((Below.refl _ w).alloc (Nat.le_refl _) (.cells #[.int .i64 fid, .int .i64 ffr, .int .i64 fds, .int .i64 fcl, .int .i64 fep, .slice none 0 0] 38))) _ _ hz
  rw [hr]
  clear hr hz hs
  unfold outI at *
  dsimp only at *
  generalize os.length = n at *
  have hn : ¬ n = 0 := by omega
  obtain ⟨s, hs⟩ : ∃ s, s = wrap64 (fds + (p : Int)) := ⟨_, rfl⟩
  rw [← hs] at g1 g2 g3 g4 hc
  have hs' := hs.symm
  clear hs
  unfold frV
  go_enter Try.func13, Try.ntmps13
  go_wp2_with fail
  go_ret
  exact ⟨rfl, (Below.refl _ _).alloc (Nat.le_refl _) _⟩
set_option maxHeartbeats 2000000 in
theorem router_any (w : World) (a : Option Addr) (n c0 : Nat) : Calls Try.prog 29 #[.slice a n c0] w fun e w' => e = .returned (.func (.func 46) #[] #[.pointer (some ⟨w.heap.size, 0, none⟩)]) ∧ w' = w.alloc (.cells #[.slice a n c0] 22) := by
  have hmf : ∀ (fn : Fn) (first cap : Array Value) (w : World), (Instr.makeFunc fn first cap).run Try.prog w = .ok (.func fn first cap) w := fun _ _ _ _ => rfl
  go_enter Try.func29, Try.ntmps29
  go_wp2_with fail
  go_ret
  exact ⟨rfl, rfl⟩
set_option maxHeartbeats 2000000 in
theorem route_any (w : World) (kb : Nat) (a : Option Addr) (c0 : Nat) (os : List Int) (p : Nat) (f : Fr) (hk : Blk w kb 22 [.slice a os.length c0]) (hs : SlI w a os) (h1 : 1 ≤ os.length) (h8 : os.length ≤ 8) :
    Calls Try.prog 46 #[.int .i64 p, frV f, .pointer (some ⟨kb, 0, none⟩)] w fun e w' => e = .returned (.int .i64 (rtO os p f)) ∧ Below w.heap.size w w' := by
  have B1 : Below w.heap.size w (w.alloc (.cells #[.int .i64 f.id, .int .i64 f.frm, .int .i64 f.dst, .int .i64 f.cls, .int .i64 f.ep, .slice none 0 0] 39)) := (Below.refl _ w).alloc (Nat.le_refl _) _
  have OU := out_any _ a c0 os p f (hs.below B1) h1 h8
  have c1 := hk.cell (i := 0) rfl
  have hl := hk.lt
  unfold frV at OU ⊢
  have HO := Lib.hid OU
  have HB := Lib.hid B1
  clear hk hs OU B1
  go_enter Try.func46, Try.ntmps46
  go_wp2_with fail
  refine HO.out.mono ?_
  rintro e w1 ⟨rfl, hb⟩
  have B2 := Lib.hid (HB.out.trans (hb.mono HB.out.size))
  clear hb
  go_wp2_with fail
  go_ret
  exact ⟨rfl, B2.out⟩
def rtN (kb : Nat) (a : Option Addr) (os : List Int) (k : Nat) : Prop := k = kb ∨ k = (a.getD default).block
theorem route_ok (kb : Nat) (a : Option Addr) (c0 : Nat) (os : List Int) (h1 : 1 ≤ os.length) (h8 : os.length ≤ 8) :
    Route 46 #[.pointer (some ⟨kb, 0, none⟩)] (rtO os) (fun w => Blk w kb 22 [.slice a os.length c0] ∧ SlI w a os) (rtN kb a os) := by
  refine ⟨fun w p f h _ => route_any w kb a c0 os p f h.1 h.2 h1 h8, fun w w' S h u hs => ⟨h.1.upd u (hs kb (.inl rfl)), h.2.upd u fun _ => hs _ (.inr rfl)⟩, fun w k h e => ?_, fun args w => by
    simp [callFunc, go_sem, Try.f46]⟩
  rcases e with rfl | rfl
  · exact h.1.lt
  · exact h.2.old (by intro e; rw [e] at h1; simp at h1)
end Go.Proofs.Ytkooihniieepcaa
