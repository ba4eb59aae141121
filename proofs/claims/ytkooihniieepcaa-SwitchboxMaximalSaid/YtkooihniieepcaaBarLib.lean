/-
  Blocks that hold a function's values; the requests in memory; contracts of crossbar.New, square, and of the closures of a round.
-/
import Derived.Test.YtkooihniieepcaaOpen
import Derived.Test.YtkooihniieepcaaBarB
namespace Go.Proofs.Ytkooihniieepcaa
open Go.RowKit
set_option linter.unusedVariables false

theorem fun_get (f : Nat → Value) {n j : Nat} (h : j < n) : ((List.range n).map f)[j]? = some (f j) := by
  rw [List.getElem?_map, List.getElem?_range h]; rfl
/-- Block b holds f 0, .., f (n - 1). -/
def Fun (w : World) (b : Nat) (T : TypeId) (n : Nat) (f : Nat → Value) : Prop := Blk w b T ((List.range n).map f)
theorem Fun.cell {w : World} {b : Nat} {T : TypeId} {n : Nat} {f : Nat → Value} (h : Fun w b T n f) {j : Nat} (hj : j < n) : w.cell? ⟨b, j, none⟩ = some (f j) := Blk.cell h (fun_get f hj)
theorem Fun.free {w : World} {b : Nat} {T : TypeId} {n : Nat} {f : Nat → Value} (h : Fun w b T n f) (j : Nat) : w.frozen? ⟨b, j, none⟩ = false := Blk.free h j
theorem Fun.lt {w : World} {b : Nat} {T : TypeId} {n : Nat} {f : Nat → Value} (h : Fun w b T n f) : b < w.heap.size := Blk.lt h
theorem Fun.set {w : World} {b : Nat} {T : TypeId} {n : Nat} {f : Nat → Value} (h : Fun w b T n f) {j : Nat} (hj : j < n) (v : Value) : Fun (w.setCell ⟨b, j, none⟩ v) b T n (Bar.upd f j v) := by
  unfold Fun
  rw [Bar.range_upd f v hj]
  exact Blk.set h j v
theorem Fun.congr {w : World} {b : Nat} {T : TypeId} {n : Nat} {f g : Nat → Value} (h : Fun w b T n f) (e : ∀ j < n, f j = g j) : Fun w b T n g := by
  unfold Fun
  rw [List.map_congr_left (g := f) (f := g) (fun j hj => (e j (by simpa using hj)).symm)]
  exact h
theorem Fun.upd {S : Nat → Prop} {w w' : World} {b : Nat} {T : TypeId} {n : Nat} {f : Nat → Value} (h : Fun w b T n f) (u : Upd S w w') (hb : ¬ S b) : Fun w' b T n f := Blk.upd h u hb
theorem Fun.below {w w' : World} {b : Nat} {T : TypeId} {n : Nat} {f : Nat → Value} (h : Fun w b T n f) (u : Below w.heap.size w w') : Fun w' b T n f := Blk.upd (S := fun _ => False) h (Upd.of_below u) id
theorem Fun.setO {w : World} {b : Nat} {T : TypeId} {n : Nat} {f : Nat → Value} (h : Fun w b T n f) {a : Addr} (v : Value) (hb : b ≠ a.block) : Fun (w.setCell a v) b T n f := Blk.setO h v hb
def iv (x : Int) : Value := .int .i64 x
def iF (m : Nat → Int) (j : Nat) : Value := .int .i64 (m j)
def nF (g : Nat → Nat) (j : Nat) : Value := .int .i64 (g j : Int)
def bF (t : Nat → Bool) (j : Nat) : Value := .bool (t j)
theorem iF_upd (m : Nat → Int) (k : Nat) (x : Int) : Bar.upd (iF m) k (.int .i64 x) = iF (Bar.upd m k x) := by
  funext j; by_cases e : j = k <;> simp [Bar.upd, iF, e]
theorem bF_upd (m : Nat → Bool) (k : Nat) (x : Bool) : Bar.upd (bF m) k (.bool x) = bF (Bar.upd m k x) := by
  funext j; by_cases e : j = k <;> simp [Bar.upd, bF, e]

/-- The cells of a crossbar: its size, the grant pointers, the accept pointers. -/
def barF (n : Nat) (g a : Nat → Nat) (j : Nat) : Value := .int .i64 ((if j = 0 then n else if j < 9 then g (j - 1) else a (j - 9) : Nat) : Int)
def BarAt (w : World) (b n : Nat) (g a : Nat → Nat) : Prop := Fun w b 95 17 (barF n g a)
theorem BarAt.n {w : World} {b n : Nat} {g a : Nat → Nat} (h : BarAt w b n g a) : w.cell? ⟨b, 0, none⟩ = some (.int .i64 n) := Fun.cell h (j := 0) (by omega)
theorem BarAt.g {w : World} {b n : Nat} {g a : Nat → Nat} (h : BarAt w b n g a) {k : Nat} (hk : k < 8) : w.cell? ⟨b, 1 + k, none⟩ = some (.int .i64 (g k)) := by
  have := Fun.cell h (j := 1 + k) (by omega)
  rw [this]; unfold barF
  rw [if_neg (by omega), if_pos (by omega), show 1 + k - 1 = k by omega]
theorem BarAt.a {w : World} {b n : Nat} {g a : Nat → Nat} (h : BarAt w b n g a) {k : Nat} (hk : k < 8) : w.cell? ⟨b, 9 + k, none⟩ = some (.int .i64 (a k)) := by
  have := Fun.cell h (j := 9 + k) (by omega)
  rw [this]; unfold barF
  rw [if_neg (by omega), if_neg (by omega), show 9 + k - 9 = k by omega]
theorem BarAt.setG {w : World} {b n : Nat} {g a : Nat → Nat} (h : BarAt w b n g a) {k : Nat} (hk : k < 8) (x : Nat) : BarAt (w.setCell ⟨b, 1 + k, none⟩ (.int .i64 x)) b n (Bar.upd g k x) a := by
  refine (Fun.set h (j := 1 + k) (by omega) (.int .i64 x)).congr fun j hj => ?_
  unfold Bar.upd barF
  by_cases e : j = 1 + k
  · subst e
    rw [if_pos rfl, if_neg (by omega), if_pos (by omega)]; dsimp only; rw [if_pos (by omega)]
  · rw [if_neg e]
    by_cases e0 : j = 0
    · rw [if_pos e0, if_pos e0]
    · rw [if_neg e0, if_neg e0]
      by_cases e9 : j < 9
      · rw [if_pos e9, if_pos e9]; dsimp only; rw [if_neg (by omega)]
      · rw [if_neg e9, if_neg e9]
theorem BarAt.setA {w : World} {b n : Nat} {g a : Nat → Nat} (h : BarAt w b n g a) {k : Nat} (hk : k < 8) (x : Nat) : BarAt (w.setCell ⟨b, 9 + k, none⟩ (.int .i64 x)) b n g (Bar.upd a k x) := by
  refine (Fun.set h (j := 9 + k) (by omega) (.int .i64 x)).congr fun j hj => ?_
  unfold Bar.upd barF
  by_cases e : j = 9 + k
  · subst e
    rw [if_pos rfl, if_neg (by omega), if_neg (by omega)]; dsimp only; rw [if_pos (by omega)]
  · rw [if_neg e]
    by_cases e0 : j = 0
    · rw [if_pos e0, if_pos e0]
    · rw [if_neg e0, if_neg e0]
      by_cases e9 : j < 9
      · rw [if_pos e9, if_pos e9]
      · rw [if_neg e9, if_neg e9]; dsimp only; rw [if_neg (by omega)]
theorem BarAt.upd {S : Nat → Prop} {w w' : World} {b n : Nat} {g a : Nat → Nat} (h : BarAt w b n g a) (u : Upd S w w') (hb : ¬ S b) : BarAt w' b n g a := Blk.upd h u hb
theorem BarAt.below {w w' : World} {b n : Nat} {g a : Nat → Nat} (h : BarAt w b n g a) (u : Below w.heap.size w w') : BarAt w' b n g a := Fun.below h u

/-- The requests in memory: a slice of slices of truth values. -/
structure Req (w : World) (a : Option Addr) (rs : List (RowOf Bool)) : Prop where
  hs : Sl RowOf.val w a rs
  rows : ∀ r ∈ rs, Sl Value.bool w (RowOf.a r) r.xs
theorem Req.below {w w' : World} {a : Option Addr} {rs : List (RowOf Bool)} (h : Req w a rs) (u : Below w.heap.size w w') : Req w' a rs := ⟨h.hs.below u, fun r hr => (h.rows r hr).below u⟩
theorem Req.qt {w w' : World} {a : Option Addr} {rs : List (RowOf Bool)} (h : Req w a rs) (u : Qt w w') : Req w' a rs := h.below u.bel
/-- The requests lie outside the blocks of S. -/
def Off (a : Option Addr) (rs : List (RowOf Bool)) (S : Nat → Prop) : Prop := (rs ≠ [] → ¬ S (a.getD default).block) ∧ ∀ r ∈ rs, r.xs ≠ [] → ¬ S ((RowOf.a r).getD default).block
theorem Req.upd {S : Nat → Prop} {w w' : World} {a : Option Addr} {rs : List (RowOf Bool)} (h : Req w a rs) (u : Upd S w w') (o : Off a rs S) : Req w' a rs :=
  ⟨h.hs.upd u o.1, fun r hr => (h.rows r hr).upd u (o.2 r hr)⟩
theorem Req.off {S T : Nat → Prop} {w : World} {a : Option Addr} {rs : List (RowOf Bool)} (h : Req w a rs) (o : Off a rs S) (hT : ∀ j, T j → S j ∨ w.heap.size ≤ j) : Off a rs T :=
  ⟨fun hne ht => (hT _ ht).elim (o.1 hne) fun hle => absurd (h.hs.old hne) (Nat.not_lt_of_le hle), fun r hr hne ht => (hT _ ht).elim (o.2 r hr hne) fun hle => absurd ((h.rows r hr).old hne) (Nat.not_lt_of_le hle)⟩
def reqF (rs : List (RowOf Bool)) (i k : Nat) : Bool := match rs[i]? with | some r => r.xs.getD k false | none => false
def sqB (rs : List (RowOf Bool)) (n : Nat) : Bool := decide (rs.length = n ∧ ∀ r ∈ rs, r.xs.length = n)
theorem Req.get {w : World} {a : Option Addr} {rs : List (RowOf Bool)} (h : Req w a rs) {n i k : Nat} (hn : rs.length = n) (hr : ∀ r ∈ rs, r.xs.length = n) (hi : i < n) (hk : k < n) :
    ∃ r, Hid (rs[i]? = some r) ∧ okAd a = true ∧ w.cell? (adr a i) = some (.slice r.a n r.c) ∧ okAd r.a = true ∧ w.cell? (adr r.a k) = some (.bool (reqF rs i k)) := by
  obtain ⟨r, er, h1, h2⟩ := h.hs.get (k := i) (by omega)
  have hm := List.mem_of_getElem? er.out
  have hl := hr r hm
  obtain ⟨x, ex, h3, h4⟩ := (h.rows r hm).get (k := k) (by omega)
  refine ⟨r, er, h1, ?_, h3, ?_⟩
  · rw [h2]; unfold RowOf.val; rw [hl]
  · rw [h4]; unfold reqF; rw [er.out]; simp [ex.out]

set_option maxHeartbeats 400000 in
theorem barnew_bad (n : Int) (w : World) (h : n < 1 ∨ 8 < n) :
    Calls Try.prog 30 #[.int .i64 n] w fun e w' => e = .returned (.tuple #[.pointer none, .int .i64 2]) ∧ w = w' := by
  rcases h with h | h
  · go_enter Try.func30, Try.ntmps30
    go_wp2
    go_ret2
    exact ⟨rfl, rfl⟩
  · have h' : ¬ n < 1 := by omega
    go_enter Try.func30, Try.ntmps30
    go_wp2
    go_ret2
    exact ⟨rfl, rfl⟩

def NewOk (w : World) (n : Nat) (e : Ending) (w' : World) : Prop :=
  e = .returned (.tuple #[.pointer (some ⟨w.heap.size, 0, none⟩), .int .i64 0]) ∧ BarAt w' w.heap.size n (fun _ => 0) (fun _ => 0) ∧ Below w.heap.size w w' ∧ w'.heap.size = w.heap.size + 1
set_option maxHeartbeats 400000 in
theorem barnew_ok (n : Nat) (w : World) (h1 : 1 ≤ n) (h2 : n ≤ 8) :
    Calls Try.prog 30 #[.int .i64 n] w (NewOk w n) := by
  have h3 : ¬ (n : Int) < 1 := by omega
  have h4 : ¬ (8 : Int) < (n : Int) := by omega
  go_enter Try.func30, Try.ntmps30
  go_wp2
  go_ret2
  refine ⟨rfl, ?_, ?_, ?_⟩
  · exact Blk.new w 95 _
  · exact (Below.refl _ _).alloc (Nat.le_refl _) _
  · simp
end Go.Proofs.Ytkooihniieepcaa
