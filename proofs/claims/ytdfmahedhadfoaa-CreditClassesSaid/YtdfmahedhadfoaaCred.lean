/-
  Contracts of the methods of credit.Giver.
-/
import Derived.Test.YtdfmahedhadfoaaCredClo
namespace Go.Proofs.Ytdfmahedhadfoaa
open Go.RowKit
set_option linter.unusedVariables false

/-- A giver at block g, its counters at block cb. -/
structure GAt (w : World) (base g cb : Nat) (l : List I3) : Prop where
  hg : Blk w g 66 [.slice (some ⟨cb, 0, none⟩) l.length l.length]
  hc : Blk w cb 68 (cs3 l)
  ne : g ≠ cb
  b1 : base ≤ g
  b2 : base ≤ cb
theorem GAt.upd {w w' : World} {base g cb : Nat} {l : List I3} {S : Nat → Prop} (h : GAt w base g cb l) (u : Upd S w w') (h1 : ¬ S g) (h2 : ¬ S cb) : GAt w' base g cb l := ⟨h.hg.upd u h1, h.hc.upd u h2, h.ne, h.b1, h.b2⟩
theorem GAt.below {w w' : World} {base g cb : Nat} {l : List I3} (h : GAt w base g cb l) (b : Below w.heap.size w w') : GAt w' base g cb l := h.upd (S := fun _ => False) (Upd.of_below b) id id
theorem GAt.qt {w w' : World} {base g cb : Nat} {l : List I3} (h : GAt w base g cb l) (q : Qt w w') : GAt w' base g cb l := h.below q.bel

/-- The call has set class c to x' and returned res; only block cb has turned. -/
def GPost (w : World) (base g cb : Nat) (l : List I3) (c : Nat) (x' : I3) (res : Value) (e : Ending) (w' : World) : Prop :=
  e = .returned res ∧ GAt w' base g cb (l.set c x') ∧ Upd (fun k => k = cb) w w'
theorem GAt.turn {w w' : World} {base g cb : Nat} {l : List I3} (h : GAt w base g cb l) {S : Nat → Prop} (u : Upd S w w') (hS : ¬ S g) {c : Nat} {x' : I3} (hc : Blk w' cb 68 (cs3 (l.set c x'))) : GAt w' base g cb (l.set c x') :=
  ⟨by rw [List.length_set]; exact h.hg.upd u hS, hc, h.ne, h.b1, h.b2⟩


set_option maxHeartbeats 2000000 in
theorem rec_ok (w : World) (base g cb c : Nat) (l : List I3) (x : I3) (h : GAt w base g cb l) (hx : l[c]? = some x) (hk : GOk x) (hl : l.length ≤ 1000) :
    Calls Try.prog 15 #[.pointer (some ⟨g, 0, none⟩), .int .i64 c] w (GPost w base g cb l c (recX x) (.int .i64 (recE x))) := by
  have H := Lib.hid h
  have C := Lib.hid (rec1_any w cb c l x h.hc hx hk)
  have hlt := get_lt hx
  have q0 := h.hg.cell (i := 0) rfl
  have hne := h.ne
  have g1 : ¬ (l.length : Int) ≤ (c : Int) := by omega
  clear h hx hk
  go_enter Try.func15, Try.ntmps15
  go_wp2_with (first | (go_at_call 34; refine C.out.mono ?_; rintro e w1 ⟨rfl, hb1, hu1⟩) | go_in)
  go_ret
  exact ⟨rfl, H.out.turn hu1 hne hb1, hu1⟩

set_option maxHeartbeats 2000000 in
theorem rec_out (w : World) (base g cb : Nat) (c : Int) (l : List I3) (h : GAt w base g cb l) (hc : c < 0 ∨ l.length ≤ c) (hl : l.length ≤ 1000) :
    Calls Try.prog 15 #[.pointer (some ⟨g, 0, none⟩), .int .i64 c] w fun e w' => e = .returned (.int .i64 2) ∧ w = w' := by
  have q0 := h.hg.cell (i := 0) rfl
  clear h
  by_cases h0 : c < 0
  · clear hc
    go_enter Try.func15, Try.ntmps15
    go_wp2_with (first | go_in)
    go_ret
    exact ⟨rfl, rfl⟩
  · have h1 : (l.length : Int) ≤ c := by omega
    clear hc
    go_enter Try.func15, Try.ntmps15
    go_wp2_with (first | go_in)
    go_ret
    exact ⟨rfl, rfl⟩

set_option maxHeartbeats 2000000 in
theorem rec_nil (w : World) (c : Int) : Calls Try.prog 15 #[.pointer none, .int .i64 c] w fun e w' => e = .returned (.int .i64 1) ∧ w = w' := by
  go_enter Try.func15, Try.ntmps15
  go_wp2_with (first | go_in)
  go_ret
  exact ⟨rfl, rfl⟩

set_option maxHeartbeats 2000000 in
theorem fre_ok (w : World) (base g cb c : Nat) (l : List I3) (x : I3) (h : GAt w base g cb l) (hx : l[c]? = some x) (hk : GOk x) (hl : l.length ≤ 1000) :
    Calls Try.prog 16 #[.pointer (some ⟨g, 0, none⟩), .int .i64 c] w (GPost w base g cb l c (freX x) (.int .i64 (freE x))) := by
  have H := Lib.hid h
  have C := Lib.hid (fre1_any w cb c l x h.hc hx hk)
  have hlt := get_lt hx
  have q0 := h.hg.cell (i := 0) rfl
  have hne := h.ne
  have g1 : ¬ (l.length : Int) ≤ (c : Int) := by omega
  clear h hx hk
  go_enter Try.func16, Try.ntmps16
  go_wp2_with (first | (go_at_call 35; refine C.out.mono ?_; rintro e w1 ⟨rfl, hb1, hu1⟩) | go_in)
  go_ret
  exact ⟨rfl, H.out.turn hu1 hne hb1, hu1⟩

set_option maxHeartbeats 2000000 in
theorem fre_out (w : World) (base g cb : Nat) (c : Int) (l : List I3) (h : GAt w base g cb l) (hc : c < 0 ∨ l.length ≤ c) (hl : l.length ≤ 1000) :
    Calls Try.prog 16 #[.pointer (some ⟨g, 0, none⟩), .int .i64 c] w fun e w' => e = .returned (.int .i64 2) ∧ w = w' := by
  have q0 := h.hg.cell (i := 0) rfl
  clear h
  by_cases h0 : c < 0
  · clear hc
    go_enter Try.func16, Try.ntmps16
    go_wp2_with (first | go_in)
    go_ret
    exact ⟨rfl, rfl⟩
  · have h1 : (l.length : Int) ≤ c := by omega
    clear hc
    go_enter Try.func16, Try.ntmps16
    go_wp2_with (first | go_in)
    go_ret
    exact ⟨rfl, rfl⟩

set_option maxHeartbeats 2000000 in
theorem fre_nil (w : World) (c : Int) : Calls Try.prog 16 #[.pointer none, .int .i64 c] w fun e w' => e = .returned (.int .i64 1) ∧ w = w' := by
  go_enter Try.func16, Try.ntmps16
  go_wp2_with (first | go_in)
  go_ret
  exact ⟨rfl, rfl⟩

set_option maxHeartbeats 2000000 in
theorem lim_ok (w : World) (base g cb c : Nat) (l : List I3) (x : I3) (h : GAt w base g cb l) (hx : l[c]? = some x) (hk : GOk x) (hl : l.length ≤ 1000) :
    Calls Try.prog 17 #[.pointer (some ⟨g, 0, none⟩), .int .i64 c] w fun e w' => e = .returned (.int .i64 (x.a + x.c)) ∧ Below w.heap.size w w' := by
  have C := Lib.hid (lim1_any (w.alloc (.cells #[.int .i64 0] 3)) cb c w.heap.size 0 l x (h.hc.alloc _) hx hk (Blk.new w _ [.int .i64 0]))
  have hlt := get_lt hx
  have q0 := h.hg.cell (i := 0) rfl
  have hgl := h.hg.lt
  have g1 : ¬ (l.length : Int) ≤ (c : Int) := by omega
  have GL := Lib.hid (h.hg.alloc (.cells #[.int .i64 0] 3))
  clear h hx hk
  go_enter Try.func17, Try.ntmps17
  go_wp2_with (first | (go_at_call 36; refine C.out.mono ?_; rintro e w1 ⟨rfl, hb1, hu1⟩; have r0 := hb1.cell (i := 0) rfl; have HU := Lib.hid hu1; clear hu1 hb1) | go_in)
  go_ret
  exact ⟨rfl, Upd.below ((Below.refl _ w).alloc (Nat.le_refl _) _) HU.out (by simp) (fun i hi => by omega)⟩

set_option maxHeartbeats 2000000 in
theorem lim_out (w : World) (base g cb : Nat) (c : Int) (l : List I3) (h : GAt w base g cb l) (hc : c < 0 ∨ l.length ≤ c) (hl : l.length ≤ 1000) :
    Calls Try.prog 17 #[.pointer (some ⟨g, 0, none⟩), .int .i64 c] w fun e w' => e = .returned (.int .i64 0) ∧ Below w.heap.size w w' := by
  have q0 := h.hg.cell (i := 0) rfl
  have hgl := h.hg.lt
  clear h
  by_cases h0 : c < 0
  · clear hc
    go_enter Try.func17, Try.ntmps17
    go_wp2_with (first | go_in)
    go_ret
    exact ⟨rfl, (Below.refl _ _).alloc (Nat.le_refl _) _⟩
  · have h1 : (l.length : Int) ≤ c := by omega
    clear hc
    go_enter Try.func17, Try.ntmps17
    go_wp2_with (first | go_in)
    go_ret
    exact ⟨rfl, (Below.refl _ _).alloc (Nat.le_refl _) _⟩

set_option maxHeartbeats 2000000 in
theorem lim_nil (w : World) (c : Int) : Calls Try.prog 17 #[.pointer none, .int .i64 c] w fun e w' => e = .returned (.int .i64 0) ∧ Below w.heap.size w w' := by
  go_enter Try.func17, Try.ntmps17
  go_wp2_with (first | go_in)
  go_ret
  exact ⟨rfl, (Below.refl _ _).alloc (Nat.le_refl _) _⟩

set_option maxHeartbeats 2000000 in
theorem held_ok (w : World) (base g cb c : Nat) (l : List I3) (x : I3) (h : GAt w base g cb l) (hx : l[c]? = some x) (hk : GOk x) (hl : l.length ≤ 1000) :
    Calls Try.prog 18 #[.pointer (some ⟨g, 0, none⟩), .int .i64 c] w fun e w' => e = .returned (.int .i64 (x.b - x.c)) ∧ Below w.heap.size w w' := by
  have C := Lib.hid (held1_any (w.alloc (.cells #[.int .i64 0] 3)) cb c w.heap.size 0 l x (h.hc.alloc _) hx hk (Blk.new w _ [.int .i64 0]))
  have hlt := get_lt hx
  have q0 := h.hg.cell (i := 0) rfl
  have hgl := h.hg.lt
  have g1 : ¬ (l.length : Int) ≤ (c : Int) := by omega
  have GL := Lib.hid (h.hg.alloc (.cells #[.int .i64 0] 3))
  clear h hx hk
  go_enter Try.func18, Try.ntmps18
  go_wp2_with (first | (go_at_call 37; refine C.out.mono ?_; rintro e w1 ⟨rfl, hb1, hu1⟩; have r0 := hb1.cell (i := 0) rfl; have HU := Lib.hid hu1; clear hu1 hb1) | go_in)
  go_ret
  exact ⟨rfl, Upd.below ((Below.refl _ w).alloc (Nat.le_refl _) _) HU.out (by simp) (fun i hi => by omega)⟩

set_option maxHeartbeats 2000000 in
theorem held_out (w : World) (base g cb : Nat) (c : Int) (l : List I3) (h : GAt w base g cb l) (hc : c < 0 ∨ l.length ≤ c) (hl : l.length ≤ 1000) :
    Calls Try.prog 18 #[.pointer (some ⟨g, 0, none⟩), .int .i64 c] w fun e w' => e = .returned (.int .i64 0) ∧ Below w.heap.size w w' := by
  have q0 := h.hg.cell (i := 0) rfl
  have hgl := h.hg.lt
  clear h
  by_cases h0 : c < 0
  · clear hc
    go_enter Try.func18, Try.ntmps18
    go_wp2_with (first | go_in)
    go_ret
    exact ⟨rfl, (Below.refl _ _).alloc (Nat.le_refl _) _⟩
  · have h1 : (l.length : Int) ≤ c := by omega
    clear hc
    go_enter Try.func18, Try.ntmps18
    go_wp2_with (first | go_in)
    go_ret
    exact ⟨rfl, (Below.refl _ _).alloc (Nat.le_refl _) _⟩

set_option maxHeartbeats 2000000 in
theorem held_nil (w : World) (c : Int) : Calls Try.prog 18 #[.pointer none, .int .i64 c] w fun e w' => e = .returned (.int .i64 0) ∧ Below w.heap.size w w' := by
  go_enter Try.func18, Try.ntmps18
  go_wp2_with (first | go_in)
  go_ret
  exact ⟨rfl, (Below.refl _ _).alloc (Nat.le_refl _) _⟩

set_option maxHeartbeats 2000000 in
theorem aud_ok (w : World) (base g cb c : Nat) (s : Int) (l : List I3) (x : I3) (h : GAt w base g cb l) (hx : l[c]? = some x) (hk : GOk x) (hl : l.length ≤ 1000) :
    Calls Try.prog 14 #[.pointer (some ⟨g, 0, none⟩), .int .i64 c, .int .i64 s] w (GPost w base g cb l c (audX x s) (.tuple #[.int .i64 (audN x s), .int .i64 (audE x s)])) := by
  have H := Lib.hid h
  have B1 : Below w.heap.size w ((w.alloc (.cells #[.int .i64 s] 3)).alloc (.cells #[.int .i64 0] 3)) := ((Below.refl _ w).alloc (Nat.le_refl _) _).alloc (by simp) _
  have K1 : Blk ((w.alloc (.cells #[.int .i64 s] 3)).alloc (.cells #[.int .i64 0] 3)) (w.heap.size + 1) 3 [.int .i64 0] := by simpa using Blk.new (w.alloc (.cells #[.int .i64 s] 3)) 3 [.int .i64 0]
  have hgl := h.hg.lt
  have hcl := h.hc.lt
  have C := Lib.hid (aud1_any ((w.alloc (.cells #[.int .i64 s] 3)).alloc (.cells #[.int .i64 0] 3)) cb c w.heap.size (w.heap.size + 1) s l x (h.below B1).hc hx hk ((Blk.new w _ [.int .i64 s]).alloc _) K1 (by omega) (by omega) (by omega))
  have hlt := get_lt hx
  have q0 := h.hg.cell (i := 0) rfl
  have hne := h.ne
  have g1 : ¬ (l.length : Int) ≤ (c : Int) := by omega
  have HB1 := Lib.hid B1
  clear h hx hk B1 K1
  go_enter Try.func14, Try.ntmps14
  go_wp2_with (first | (go_at_call 32; refine C.out.mono ?_; rintro e w1 ⟨rfl, hb1, hb2, hu1⟩; have r0 := hb2.cell (i := 0) rfl; have HU := Lib.hid hu1; have HC1 := Lib.hid hb1; clear hu1 hb1 hb2) | go_in)
  go_ret2
  have U : Upd (fun k => k = cb) w w1 := Upd.then (Upd.of_below HB1.out) HU.out (fun i hi h => by rcases h with h | h; exact h; omega)
  exact ⟨rfl, H.out.turn U hne HC1.out, U⟩

set_option maxHeartbeats 2000000 in
theorem aud_out (w : World) (base g cb : Nat) (c s : Int) (l : List I3) (h : GAt w base g cb l) (hc : c < 0 ∨ l.length ≤ c) (hl : l.length ≤ 1000) :
    Calls Try.prog 14 #[.pointer (some ⟨g, 0, none⟩), .int .i64 c, .int .i64 s] w fun e w' => e = .returned (.tuple #[.int .i64 0, .int .i64 2]) ∧ Below w.heap.size w w' := by
  have q0 := h.hg.cell (i := 0) rfl
  have hgl := h.hg.lt
  clear h
  by_cases h0 : c < 0
  · clear hc
    go_enter Try.func14, Try.ntmps14
    go_wp2_with (first | go_in)
    go_ret2
    exact ⟨rfl, ((Below.refl _ _).alloc (Nat.le_refl _) _).alloc (by simp) _⟩
  · have h1 : (l.length : Int) ≤ c := by omega
    clear hc
    go_enter Try.func14, Try.ntmps14
    go_wp2_with (first | go_in)
    go_ret2
    exact ⟨rfl, ((Below.refl _ _).alloc (Nat.le_refl _) _).alloc (by simp) _⟩

set_option maxHeartbeats 2000000 in
theorem aud_nil (w : World) (c s : Int) : Calls Try.prog 14 #[.pointer none, .int .i64 c, .int .i64 s] w fun e w' => e = .returned (.tuple #[.int .i64 0, .int .i64 1]) ∧ Below w.heap.size w w' := by
  go_enter Try.func14, Try.ntmps14
  go_wp2_with (first | go_in)
  go_ret2
  exact ⟨rfl, ((Below.refl _ _).alloc (Nat.le_refl _) _).alloc (by simp) _⟩
end Go.Proofs.Ytdfmahedhadfoaa
