/-
  The taker's counters in memory; contracts of the closures of credit.Taker.
  Contracts of the methods of credit.Taker; NewTaker.
-/
import Derived.Test.YtkooihniieepcaaSwCr
import Derived.Lib.SliceRun
namespace Go.Proofs.Ytkooihniieepcaa
open Go.RowKit
set_option linter.unusedVariables false

structure I2 where
  a : Int
  b : Int
  deriving Inhabited
def c2 (x : I2) : List Value := [.int .i64 x.a, .int .i64 x.b]
def cs2 (l : List I2) : List Value := l.flatMap c2
theorem cs2_cons (y : I2) (l : List I2) : cs2 (y :: l) = .int .i64 y.a :: .int .i64 y.b :: cs2 l := rfl
theorem cs2_append (l m : List I2) : cs2 (l ++ m) = cs2 l ++ cs2 m := by simp [cs2]
theorem cs2_len (l : List I2) : (cs2 l).length = l.length * 2 := by
  induction l with
  | nil => rfl
  | cons y l ih => rw [cs2_cons]; simp only [List.length_cons, ih]; omega
theorem cs2_get : ∀ {l : List I2} {c : Nat} {x : I2}, l[c]? = some x → (cs2 l)[c * 2]? = some (.int .i64 x.a) ∧ (cs2 l)[c * 2 + 1]? = some (.int .i64 x.b)
  | [], c, x, h => by simp at h
  | y :: l, 0, x, h => by simp at h; subst h; exact ⟨rfl, rfl⟩
  | y :: l, c + 1, x, h => by
    have := cs2_get (l := l) (c := c) (x := x) (by simpa using h)
    rw [cs2_cons, show (c + 1) * 2 = c * 2 + 2 by omega]
    exact this
theorem cs2_setA : ∀ {l : List I2} {c : Nat} {x : I2}, l[c]? = some x → ∀ v : Int, (cs2 l).set (c * 2) (.int .i64 v) = cs2 (l.set c ⟨v, x.b⟩)
  | [], c, x, h, _ => by simp at h
  | y :: l, 0, x, h, v => by simp at h; subst h; rfl
  | y :: l, c + 1, x, h, v => by
    have := cs2_setA (l := l) (c := c) (x := x) (by simpa using h) v
    rw [cs2_cons, show (c + 1) * 2 = c * 2 + 2 by omega]
    exact congrArg (fun t => Value.int .i64 y.a :: .int .i64 y.b :: t) this
theorem cs2_setB : ∀ {l : List I2} {c : Nat} {x : I2}, l[c]? = some x → ∀ v : Int, (cs2 l).set (c * 2 + 1) (.int .i64 v) = cs2 (l.set c ⟨x.a, v⟩)
  | [], c, x, h, _ => by simp at h
  | y :: l, 0, x, h, v => by simp at h; subst h; rfl
  | y :: l, c + 1, x, h, v => by
    have := cs2_setB (l := l) (c := c) (x := x) (by simpa using h) v
    rw [cs2_cons, show (c + 1) * 2 + 1 = c * 2 + 1 + 2 by omega]
    exact congrArg (fun t => Value.int .i64 y.a :: .int .i64 y.b :: t) this
theorem blk2 {w : World} {b : Nat} {T : TypeId} {l : List I2} (h : Blk w b T (cs2 l)) {c : Nat} {x : I2} (hx : l[c]? = some x) :
    w.cell? ⟨b, c * 2, none⟩ = some (.int .i64 x.a) ∧ w.cell? ⟨b, c * 2 + 1, none⟩ = some (.int .i64 x.b) := ⟨h.cell (cs2_get hx).1, h.cell (cs2_get hx).2⟩
theorem blk2_setA {w : World} {b : Nat} {T : TypeId} {l : List I2} (h : Blk w b T (cs2 l)) {c : Nat} {x : I2} (hx : l[c]? = some x) (v : Int) : Blk (w.setCell ⟨b, c * 2, none⟩ (.int .i64 v)) b T (cs2 (l.set c ⟨v, x.b⟩)) := by
  rw [← cs2_setA hx]; exact h.set _ _
theorem blk2_setB {w : World} {b : Nat} {T : TypeId} {l : List I2} (h : Blk w b T (cs2 l)) {c : Nat} {x : I2} (hx : l[c]? = some x) (v : Int) : Blk (w.setCell ⟨b, c * 2 + 1, none⟩ (.int .i64 v)) b T (cs2 (l.set c ⟨x.a, v⟩)) := by
  rw [← cs2_setB hx]; exact h.set _ _

/-- Counters within bounds: sent a, limit b. -/
structure TOk (x : I2) : Prop where
  h1 : 0 ≤ x.a
  h2 : x.a ≤ x.b
  h3 : x.b ≤ 1099511627776
def raiX (x : I2) (n : Int) : I2 := if n < 0 ∨ 1099511627776 < n then x else ⟨x.a, max x.b n⟩
def raiE (x : I2) (n : Int) : Int := if n < 0 ∨ 1099511627776 < n then 2 else 0
def takX (x : I2) : I2 := if x.b ≤ x.a then x else ⟨x.a + 1, x.b⟩
def takE (x : I2) : Int := if x.b ≤ x.a then 5 else 0

def TPost (cb : Nat) (S : Nat → Prop) (w : World) (l' : List I2) (e0 : Int) (e : Ending) (w' : World) : Prop :=
  e = .returned (.int .i64 e0) ∧ Blk w' cb 110 (cs2 l') ∧ Upd S w w'
def LefPost (lb : Nat) (w : World) (v : Int) (e : Ending) (w' : World) : Prop :=
  e = .returned (.int .i64 0) ∧ Blk w' lb 3 [.int .i64 v] ∧ Upd (fun k => k = lb) w w'

set_option maxHeartbeats 2000000 in
theorem tak1_any (w : World) (cb c : Nat) (l : List I2) (x : I2) (hb : Blk w cb 110 (cs2 l)) (hx : l[c]? = some x) (h : TOk x) :
    Calls Try.prog 56 #[.pointer (some ⟨cb, c * 2, none⟩)] w (TPost cb (fun k => k = cb) w (l.set c (takX x)) (takE x)) := by
  obtain ⟨q0, q1⟩ := blk2 hb hx
  have HB := Lib.hid hb; have HX := Lib.hid hx
  have f2 := hb.free (c * 2)
  obtain ⟨a, b⟩ := x
  obtain ⟨h1, h2, h3⟩ := h
  dsimp only at *
  by_cases hfull : b ≤ a
  · have e1 : Hid (takX ⟨a, b⟩ = ⟨a, b⟩ ∧ takE ⟨a, b⟩ = 5) := by constructor <;> simp [takX, takE, hfull]
    rw [e1.out.1, e1.out.2, set_same HX.out]
    clear hb hx
    go_enter Try.func56, Try.ntmps56
    go_wp2_with fail
    go_quiet (fail)
    go_wp2_with fail
    go_ret
    exact ⟨rfl, HB.out.qt ((Qt.refl _).drewN _), (Upd.refl _ _).drewN _⟩
  · have e1 : Hid (takX ⟨a, b⟩ = ⟨a + 1, b⟩ ∧ takE ⟨a, b⟩ = 0) := by constructor <;> simp [takX, takE, hfull]
    rw [e1.out.1, e1.out.2]
    clear hb hx
    go_enter Try.func56, Try.ntmps56
    go_wp2_with fail
    go_quiet (fail)
    go_wp2_with fail
    go_ret
    exact ⟨rfl, blk2_setA (HB.out.qt ((Qt.refl _).drewN _)) HX.out _, ((Upd.refl _ _).drewN _).setCell _ _ (fun _ => rfl)⟩

set_option maxHeartbeats 2000000 in
theorem left1_any (w : World) (cb c lb : Nat) (v : Int) (l : List I2) (x : I2) (hb : Blk w cb 110 (cs2 l)) (hx : l[c]? = some x) (h : TOk x) (hl : Blk w lb 3 [.int .i64 v]) :
    Calls Try.prog 53 #[.pointer (some ⟨cb, c * 2, none⟩), .pointer (some ⟨lb, 0, none⟩)] w (LefPost lb w (x.b - x.a)) := by
  obtain ⟨q0, q1⟩ := blk2 hb hx
  have HL := Lib.hid hl
  have r0 := hl.cell (i := 0) rfl
  have f0 := hl.free 0
  obtain ⟨a, b⟩ := x
  obtain ⟨h1, h2, h3⟩ := h
  dsimp only at *
  clear hb hx hl
  go_enter Try.func53, Try.ntmps53
  go_wp2_with fail
  go_region
  go_wp2_with fail
  go_ret
  exact ⟨rfl, Blk.drew (by simpa using (HL.out.set 0 _)), (Upd.setCell (S := fun k => k = lb) (Upd.refl _ _) _ _ (fun _ => rfl)).drew⟩

set_option maxHeartbeats 2000000 in
theorem rai1_any (w : World) (cb c sb : Nat) (n : Int) (l : List I2) (x : I2) (hb : Blk w cb 110 (cs2 l)) (hx : l[c]? = some x) (h : TOk x) (hs : Blk w sb 3 [.int .i64 n]) :
    Calls Try.prog 51 #[.pointer (some ⟨cb, c * 2, none⟩), .pointer (some ⟨sb, 0, none⟩)] w (TPost cb (fun k => k = cb) w (l.set c (raiX x n)) (raiE x n)) := by
  obtain ⟨q0, q1⟩ := blk2 hb hx
  have HB := Lib.hid hb; have HX := Lib.hid hx
  have f1 := hb.free (c * 2 + 1)
  have r0 := hs.cell (i := 0) rfl
  obtain ⟨a, b⟩ := x
  obtain ⟨h1, h2, h3⟩ := h
  dsimp only at *
  by_cases hbad : n < 0 ∨ 1099511627776 < n
  · have e1 : Hid (raiX ⟨a, b⟩ n = ⟨a, b⟩ ∧ raiE ⟨a, b⟩ n = 2) := by constructor <;> simp only [raiX, raiE, if_pos hbad]
    rw [e1.out.1, e1.out.2, set_same HX.out]
    clear hb hx hs
    by_cases hn : n < 0
    · go_enter Try.func51, Try.ntmps51
      go_wp2_with fail
      go_ret
      exact ⟨rfl, HB.out, Upd.refl _ _⟩
    · have hn2 : 1099511627776 < n := by omega
      clear hbad
      go_enter Try.func51, Try.ntmps51
      go_wp2_with fail
      go_ret
      exact ⟨rfl, HB.out, Upd.refl _ _⟩
  · have e1 : Hid (raiX ⟨a, b⟩ n = ⟨a, max b n⟩ ∧ raiE ⟨a, b⟩ n = 0) := by constructor <;> simp only [raiX, raiE, if_neg hbad]
    rw [e1.out.1, e1.out.2]
    have hn1 : ¬ n < 0 := by omega
    have hn2 : ¬ 1099511627776 < n := by omega
    clear hb hx hs hbad
    go_enter Try.func51, Try.ntmps51
    go_wp2_with fail
    go_region
    go_wp2_with fail
    all_goals go_ret
    · have em : max b n = n := by omega
      rw [em]
      exact ⟨rfl, Blk.drew (blk2_setB HB.out HX.out _), (Upd.setCell (S := fun k => k = cb) (Upd.refl _ _) _ _ (fun _ => rfl)).drew⟩
    · have em : max b n = b := by omega
      rw [em]
      exact ⟨rfl, Blk.drew (blk2_setB HB.out HX.out _), (Upd.setCell (S := fun k => k = cb) (Upd.refl _ _) _ _ (fun _ => rfl)).drew⟩
end Go.Proofs.Ytkooihniieepcaa
namespace Go.Proofs.Ytkooihniieepcaa
open Go.RowKit
set_option linter.unusedVariables false

/-- A taker at block g, its counters at block cb. -/
structure TAt (w : World) (base g cb : Nat) (l : List I2) : Prop where
  hg : Blk w g 103 [.slice (some ⟨cb, 0, none⟩) l.length l.length]
  hc : Blk w cb 110 (cs2 l)
  ne : g ≠ cb
  b1 : base ≤ g
  b2 : base ≤ cb
theorem TAt.upd {w w' : World} {base g cb : Nat} {l : List I2} {S : Nat → Prop} (h : TAt w base g cb l) (u : Upd S w w') (h1 : ¬ S g) (h2 : ¬ S cb) : TAt w' base g cb l := ⟨h.hg.upd u h1, h.hc.upd u h2, h.ne, h.b1, h.b2⟩
theorem TAt.below {w w' : World} {base g cb : Nat} {l : List I2} (h : TAt w base g cb l) (b : Below w.heap.size w w') : TAt w' base g cb l := h.upd (S := fun _ => False) (Upd.of_below b) id id
theorem TAt.qt {w w' : World} {base g cb : Nat} {l : List I2} (h : TAt w base g cb l) (q : Qt w w') : TAt w' base g cb l := h.below q.bel
def TPost2 (w : World) (base g cb : Nat) (l : List I2) (c : Nat) (x' : I2) (res : Value) (e : Ending) (w' : World) : Prop :=
  e = .returned res ∧ TAt w' base g cb (l.set c x') ∧ Upd (fun k => k = cb) w w'
theorem TAt.turn {w w' : World} {base g cb : Nat} {l : List I2} (h : TAt w base g cb l) {S : Nat → Prop} (u : Upd S w w') (hS : ¬ S g) {c : Nat} {x' : I2} (hc : Blk w' cb 110 (cs2 (l.set c x'))) : TAt w' base g cb (l.set c x') :=
  ⟨by rw [List.length_set]; exact h.hg.upd u hS, hc, h.ne, h.b1, h.b2⟩

set_option maxHeartbeats 2000000 in
theorem tak_ok (w : World) (base g cb c : Nat) (l : List I2) (x : I2) (h : TAt w base g cb l) (hx : l[c]? = some x) (hk : TOk x) (hl : l.length ≤ 1000) :
    Calls Try.prog 44 #[.pointer (some ⟨g, 0, none⟩), .int .i64 c] w (TPost2 w base g cb l c (takX x) (.int .i64 (takE x))) := by
  have H := Lib.hid h
  have C := Lib.hid (tak1_any w cb c l x h.hc hx hk)
  have hlt := get_lt hx
  have q0 := h.hg.cell (i := 0) rfl
  have hne := h.ne
  have g1 : ¬ (l.length : Int) ≤ (c : Int) := by omega
  clear h hx hk
  go_enter Try.func44, Try.ntmps44
  go_wp2_with (first | (go_at_call 56; refine C.out.mono ?_; rintro e w1 ⟨rfl, hb1, hu1⟩) | go_in)
  go_ret
  exact ⟨rfl, H.out.turn hu1 hne hb1, hu1⟩

set_option maxHeartbeats 2000000 in
theorem left_ok (w : World) (base g cb c : Nat) (l : List I2) (x : I2) (h : TAt w base g cb l) (hx : l[c]? = some x) (hk : TOk x) (hl : l.length ≤ 1000) :
    Calls Try.prog 41 #[.pointer (some ⟨g, 0, none⟩), .int .i64 c] w fun e w' => e = .returned (.int .i64 (x.b - x.a)) ∧ Below w.heap.size w w' := by
  have C := Lib.hid (left1_any (w.alloc (.cells #[.int .i64 0] 3)) cb c w.heap.size 0 l x (h.hc.alloc _) hx hk (Blk.new w _ [.int .i64 0]))
  have hlt := get_lt hx
  have q0 := h.hg.cell (i := 0) rfl
  have hgl := h.hg.lt
  have g1 : ¬ (l.length : Int) ≤ (c : Int) := by omega
  have GL := Lib.hid (h.hg.alloc (.cells #[.int .i64 0] 3))
  clear h hx hk
  go_enter Try.func41, Try.ntmps41
  go_wp2_with (first | (go_at_call 53; refine C.out.mono ?_; rintro e w1 ⟨rfl, hb1, hu1⟩; have r0 := hb1.cell (i := 0) rfl; have HU := Lib.hid hu1; clear hu1 hb1) | go_in)
  go_ret
  exact ⟨rfl, Upd.below ((Below.refl _ w).alloc (Nat.le_refl _) _) HU.out (by simp) (fun i hi => by omega)⟩

set_option maxHeartbeats 2000000 in
theorem rai_ok (w : World) (base g cb c : Nat) (s : Int) (l : List I2) (x : I2) (h : TAt w base g cb l) (hx : l[c]? = some x) (hk : TOk x) (hl : l.length ≤ 1000) :
    Calls Try.prog 36 #[.pointer (some ⟨g, 0, none⟩), .int .i64 c, .int .i64 s] w (TPost2 w base g cb l c (raiX x s) (.int .i64 (raiE x s))) := by
  have H := Lib.hid h
  have B1 : Below w.heap.size w (w.alloc (.cells #[.int .i64 s] 3)) := (Below.refl _ w).alloc (Nat.le_refl _) _
  have C := Lib.hid (rai1_any (w.alloc (.cells #[.int .i64 s] 3)) cb c w.heap.size s l x (h.below B1).hc hx hk (Blk.new w _ [.int .i64 s]))
  have hgl := h.hg.lt
  have hlt := get_lt hx
  have q0 := h.hg.cell (i := 0) rfl
  have hne := h.ne
  have g1 : ¬ (l.length : Int) ≤ (c : Int) := by omega
  have HB1 := Lib.hid B1
  clear h hx hk B1
  go_enter Try.func36, Try.ntmps36
  go_wp2_with (first | (go_at_call 51; refine C.out.mono ?_; rintro e w1 ⟨rfl, hb1, hu1⟩; have HU := Lib.hid hu1; have HC1 := Lib.hid hb1; clear hu1 hb1) | go_in)
  go_ret
  have U : Upd (fun k => k = cb) w w1 := Upd.then (Upd.of_below HB1.out) HU.out (fun i hi h => h)
  exact ⟨rfl, H.out.turn U hne HC1.out, U⟩

theorem made2_list (a b : Value) (n : Nat) : (madeCells #[a, b] (n * 2)).toList = (List.replicate n [a, b]).flatten := by
  induction n with
  | zero => simp [madeCells]
  | succ n ih =>
    rw [List.replicate_succ', List.flatten_append, ← ih]
    have e : (n + 1) * 2 = n * 2 + 1 + 1 := by omega
    simp only [madeCells, e, Array.range_succ, Array.toList_map, Array.toList_append, Array.map_append]
    simp [Nat.mul_mod_left, Nat.add_mod]
theorem Try.infoTaken : (Try.prog.info? 110).map (fun i => (i.zero, i.size, i.bytes)) = some (some (.agg #[.int .i64 0, .int .i64 0]), 2, 16) := by kernel_rfl
theorem make_taken (w : World) (n : Nat) (h : n ≤ 1000) : (Instr.makeSlice 101 (.int .i64 n) (.int .i64 n)).run Try.prog w =
    .ok (.slice (some ⟨w.heap.size, 0, none⟩) n n) (w.alloc (.cells (cs2 (List.replicate n ⟨0, 0⟩)).toArray 110)) := by
  obtain ⟨i, hi, hz, hs, hb⟩ := info_parts Try.infoTaken
  rw [run_make w 101 110 i _ Try.underlying101 hi hz .i64 .i64 n n (by omega) (by omega) (by rw [hb]; omega) (by omega)]
  have e : madeCells (Value.agg #[.int .i64 0, .int .i64 0]).cells (((n : Int).toNat) * i.size) = (cs2 (List.replicate n ⟨0, 0⟩)).toArray := by
    rw [hs, Int.toNat_natCast]
    apply Array.toList_inj.1
    rw [show (Value.agg #[.int .i64 0, .int .i64 0]).cells = #[.int .i64 0, .int .i64 0] from rfl, made2_list]
    simp [cs2, List.flatMap, c2]
  rw [e, Int.toNat_natCast]

def NtPost (w : World) (n : Nat) (e : Ending) (w' : World) : Prop :=
  e = .returned (.tuple #[.pointer (some ⟨w.heap.size + 1, 0, none⟩), .int .i64 0]) ∧ TAt w' w.heap.size (w.heap.size + 1) w.heap.size (List.replicate n ⟨0, 0⟩) ∧ Below w.heap.size w w' ∧ w'.heap.size = w.heap.size + 2
set_option maxHeartbeats 2000000 in
theorem newT_ok (w : World) (n : Nat) (h1 : 1 ≤ n) (h4 : n ≤ 4) : Calls Try.prog 32 #[.int .i64 n] w (NtPost w n) := by
  have g : ¬ (n : Int) < 1 := by omega
  have g2 : ¬ (4 : Int) < (n : Int) := by omega
  have hmk := fun w => make_taken w n (by omega)
  generalize hL : cs2 (List.replicate n ⟨0, 0⟩) = L at hmk
  have HL := Lib.hid hL; clear hL
  go_enter Try.func32, Try.ntmps32
  go_wp2
  go_ret2
  refine ⟨rfl, ⟨?_, ?_, by omega, by omega, by omega⟩, ((Below.refl _ _).alloc (Nat.le_refl _) _).alloc (by simp) _, by simp⟩
  · rw [List.length_replicate]
    have := Blk.new (w.alloc (.cells L.toArray 110)) 103 [.slice (some ⟨w.heap.size, 0, none⟩) n n]
    rw [World.size_alloc] at this
    exact this
  · rw [HL.out]
    exact (Blk.new w _ L).alloc _
end Go.Proofs.Ytkooihniieepcaa
