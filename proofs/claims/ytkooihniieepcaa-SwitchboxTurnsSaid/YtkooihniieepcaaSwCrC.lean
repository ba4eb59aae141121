/-
  Contracts of the methods of credit.Giver.
-/
import Derived.Test.YtkooihniieepcaaSwCrB
namespace Go.Proofs.Ytkooihniieepcaa
open Go.RowKit
set_option linter.unusedVariables false

/-- A giver at block g, its counters at block cb. -/
structure GAt (w : World) (base g cb : Nat) (l : List I3) : Prop where
  hg : Blk w g 98 [.slice (some ⟨cb, 0, none⟩) l.length l.length]
  hc : Blk w cb 100 (cs3 l)
  ne : g ≠ cb
  b1 : base ≤ g
  b2 : base ≤ cb
theorem GAt.upd {w w' : World} {base g cb : Nat} {l : List I3} {S : Nat → Prop} (h : GAt w base g cb l) (u : Upd S w w') (h1 : ¬ S g) (h2 : ¬ S cb) : GAt w' base g cb l := ⟨h.hg.upd u h1, h.hc.upd u h2, h.ne, h.b1, h.b2⟩
theorem GAt.below {w w' : World} {base g cb : Nat} {l : List I3} (h : GAt w base g cb l) (b : Below w.heap.size w w') : GAt w' base g cb l := h.upd (S := fun _ => False) (Upd.of_below b) id id
theorem GAt.qt {w w' : World} {base g cb : Nat} {l : List I3} (h : GAt w base g cb l) (q : Qt w w') : GAt w' base g cb l := h.below q.bel

/-- The call has set class c to x' and returned res; only block cb has turned. -/
def GPost (w : World) (base g cb : Nat) (l : List I3) (c : Nat) (x' : I3) (res : Value) (e : Ending) (w' : World) : Prop :=
  e = .returned res ∧ GAt w' base g cb (l.set c x') ∧ Upd (fun k => k = cb) w w'
theorem GAt.turn {w w' : World} {base g cb : Nat} {l : List I3} (h : GAt w base g cb l) {S : Nat → Prop} (u : Upd S w w') (hS : ¬ S g) {c : Nat} {x' : I3} (hc : Blk w' cb 100 (cs3 (l.set c x'))) : GAt w' base g cb (l.set c x') :=
  ⟨by rw [List.length_set]; exact h.hg.upd u hS, hc, h.ne, h.b1, h.b2⟩


set_option maxHeartbeats 2000000 in
theorem rec_ok (w : World) (base g cb c : Nat) (l : List I3) (x : I3) (h : GAt w base g cb l) (hx : l[c]? = some x) (hk : GOk x) (hl : l.length ≤ 1000) :
    Calls Try.prog 34 #[.pointer (some ⟨g, 0, none⟩), .int .i64 c] w (GPost w base g cb l c (recX x) (.int .i64 (recE x))) := by
  have H := Lib.hid h
  have C := Lib.hid (rec1_any w cb c l x h.hc hx hk)
  have hlt := get_lt hx
  have q0 := h.hg.cell (i := 0) rfl
  have hne := h.ne
  have g1 : ¬ (l.length : Int) ≤ (c : Int) := by omega
  clear h hx hk
  go_enter Try.func34, Try.ntmps34
  go_wp2_with (first | (go_at_call 48; refine C.out.mono ?_; rintro e w1 ⟨rfl, hb1, hu1⟩) | go_in)
  go_ret
  exact ⟨rfl, H.out.turn hu1 hne hb1, hu1⟩

set_option maxHeartbeats 2000000 in
theorem fre_ok (w : World) (base g cb c : Nat) (l : List I3) (x : I3) (h : GAt w base g cb l) (hx : l[c]? = some x) (hk : GOk x) (hl : l.length ≤ 1000) :
    Calls Try.prog 52 #[.pointer (some ⟨g, 0, none⟩), .int .i64 c] w (GPost w base g cb l c (freX x) (.int .i64 (freE x))) := by
  have H := Lib.hid h
  have C := Lib.hid (fre1_any w cb c l x h.hc hx hk)
  have hlt := get_lt hx
  have q0 := h.hg.cell (i := 0) rfl
  have hne := h.ne
  have g1 : ¬ (l.length : Int) ≤ (c : Int) := by omega
  clear h hx hk
  go_enter Try.func52, Try.ntmps52
  go_wp2_with (first | (go_at_call 58; refine C.out.mono ?_; rintro e w1 ⟨rfl, hb1, hu1⟩) | go_in)
  go_ret
  exact ⟨rfl, H.out.turn hu1 hne hb1, hu1⟩

set_option maxHeartbeats 2000000 in
theorem lim_ok (w : World) (base g cb c : Nat) (l : List I3) (x : I3) (h : GAt w base g cb l) (hx : l[c]? = some x) (hk : GOk x) (hl : l.length ≤ 1000) :
    Calls Try.prog 45 #[.pointer (some ⟨g, 0, none⟩), .int .i64 c] w fun e w' => e = .returned (.int .i64 (x.a + x.c)) ∧ Below w.heap.size w w' := by
  have C := Lib.hid (lim1_any (w.alloc (.cells #[.int .i64 0] 3)) cb c w.heap.size 0 l x (h.hc.alloc _) hx hk (Blk.new w _ [.int .i64 0]))
  have hlt := get_lt hx
  have q0 := h.hg.cell (i := 0) rfl
  have hgl := h.hg.lt
  have g1 : ¬ (l.length : Int) ≤ (c : Int) := by omega
  have GL := Lib.hid (h.hg.alloc (.cells #[.int .i64 0] 3))
  clear h hx hk
  go_enter Try.func45, Try.ntmps45
  go_wp2_with (first | (go_at_call 57; refine C.out.mono ?_; rintro e w1 ⟨rfl, hb1, hu1⟩; have r0 := hb1.cell (i := 0) rfl; have HU := Lib.hid hu1; clear hu1 hb1) | go_in)
  go_ret
  exact ⟨rfl, Upd.below ((Below.refl _ w).alloc (Nat.le_refl _) _) HU.out (by simp) (fun i hi => by omega)⟩

end Go.Proofs.Ytkooihniieepcaa
