/-
  Two shelves apart, and the closure of the law RingApart.
-/
import Derived.Test.YtdfncgfcggpgdaaShelfD
import Derived.Test.YtdfncgfcggpgdaaOpen3
namespace Go.Proofs.Ytdfncgfcggpgdaa
open Go.RowKit
set_option linter.unusedVariables false

/-- The blocks of a shelf. -/
def shF (s : Nat) (rv : Value) (rs : List RSt) (k : Nat) : Prop := k = s ∨ rv.ownBlock = some k ∨ ∃ (i : Nat) (r : RSt), rs[i]? = some r ∧ r.foot k

theorem ShAt.f_lt {w : World} {base s : Nat} {rv : Value} {rs : List RSt} (h : ShAt w base s rv rs) {k : Nat} (hk : shF s rv rs k) : k < w.heap.size ∧ base ≤ k := by
  rcases hk with rfl | hk | ⟨i, r, hr, hk⟩
  · exact ⟨h.hs.lt, h.hbs⟩
  · exact own_lt h.own hk
  · exact h.foot_lt hr hk

def doXs (kind : Int) (room : Nat) (xs : List Int) (x : Int) : List Int := if kind = 0 then putXs room xs x else if kind = 1 then xs.tail else xs
def doRes (kind : Int) (room : Nat) (xs : List Int) : Value :=
  if kind = 0 then .tuple #[.int .i64 0, .bool false, .int .i64 (putRes room xs)]
  else match xs with
    | [] => .tuple #[.int .i64 0, .bool false, .int .i64 0]
    | x :: _ => .tuple #[.int .i64 x, .bool true, .int .i64 0]
def outRes (kind : Int) : Value := if kind = 0 then .tuple #[.int .i64 0, .bool false, .int .i64 2] else .tuple #[.int .i64 0, .bool false, .int .i64 0]

set_option maxHeartbeats 2000000 in
theorem do_any (w : World) (base s : Nat) (rv : Value) (rs : List RSt) (c : Nat) (r : RSt) (kind x : Int) (h : ShAt w base s rv rs) (hr : rs[c]? = some r) (hl : rs.length ≤ 1000) (hbase : base ≤ w.heap.size) :
    Calls Try.prog 34 #[.pointer (some ⟨s, 0, none⟩), .agg #[.int .i64 kind, .int .i64 c, .int .i64 x]] w
      (ShPost w base s rv rs c r (doXs kind r.room r.xs x) (doRes kind r.room r.xs)) := by
  have b0 : Below w.heap.size w (w.alloc (.cells #[.int .i64 kind, .int .i64 c, .int .i64 x] 30)) := (Below.refl _ _).alloc (Nat.le_refl _) _
  have hA := h.below b0
  have hs0 : w.heap.size ≤ (w.alloc (.cells #[.int .i64 kind, .int .i64 c, .int .i64 x] 30)).heap.size := b0.size
  have conv : ∀ (xs' : List Int) (res : Value) (e : Ending) (w' : World), ShPost (w.alloc (.cells #[.int .i64 kind, .int .i64 c, .int .i64 x] 30)) base s rv rs c r xs' res e w' → ∃ v', e = .returned res ∧ ShAt w' base s rv (rs.set c ⟨r.b, r.room, v', xs'⟩) ∧ Upd r.foot w w' ∧ (v'.ownBlock = r.v.ownBlock ∨ ∀ g, v'.ownBlock = some g → w.heap.size ≤ g) := by
    rintro xs' res e w' ⟨v', h1, h2, h3, h4⟩
    exact ⟨v', h1, h2, Upd.then (Upd.of_below b0) h3 (fun _ _ h => h), h4.imp id (fun h g hg => Nat.le_trans hs0 (h g hg))⟩
  have CONV := Lib.hid conv
  have keep : Hid (ShPost w base s rv rs c r r.xs (.tuple #[]) (.returned (.tuple #[])) (w.alloc (.cells #[.int .i64 kind, .int .i64 c, .int .i64 x] 30))) :=
    ⟨r.v, rfl, by rw [set_same hr]; exact hA, Upd.of_below b0, .inl rfl⟩
  by_cases h0 : kind = 0
  · subst h0
    have P := Lib.hid (shput_any _ base s rv rs c r x hA hr hl (Nat.le_trans hbase hs0))
    simp only [doXs, doRes, if_true]
    clear h hr hA conv b0
    go_enter Try.func34, Try.ntmps34
    go_wp2_with fail
    refine P.out.mono ?_
    intro e w2 hp
    obtain ⟨v', rfl, q⟩ := CONV.out _ _ _ _ hp
    have Q := Lib.hid q; clear q hp
    go_wp2_with fail
    go_ret3
    exact ⟨v', rfl, Q.out⟩
  · have k0 : (kind == 0) = false := by simp [h0]
    by_cases h1 : kind = 1
    · subst h1
      have T := Lib.hid (shtake_any _ base s rv rs c r hA hr hl)
      simp only [doXs, doRes, h0, if_false, if_true]
      clear h hr hA conv b0 h0
      cases hx : r.xs with
      | nil =>
        rw [hx] at T
        have TT : Hid (Calls Try.prog 36 #[.pointer (some ⟨s, 0, none⟩), .int .i64 c] (w.alloc (.cells #[.int .i64 1, .int .i64 c, .int .i64 x] 30)) (ShPost (w.alloc (.cells #[.int .i64 1, .int .i64 c, .int .i64 x] 30)) base s rv rs c r [] (.tuple #[.int .i64 0, .bool false]))) := T.out
        clear T hx
        go_enter Try.func34, Try.ntmps34
        go_wp2_with fail
        refine TT.out.mono ?_
        intro e w2 hp
        obtain ⟨v', rfl, q⟩ := CONV.out _ _ _ _ hp
        have Q := Lib.hid q; clear q hp
        go_wp2_with fail
        go_ret3
        exact ⟨v', rfl, Q.out⟩
      | cons y ys =>
        rw [hx] at T
        have TT : Hid (Calls Try.prog 36 #[.pointer (some ⟨s, 0, none⟩), .int .i64 c] (w.alloc (.cells #[.int .i64 1, .int .i64 c, .int .i64 x] 30)) (ShPost (w.alloc (.cells #[.int .i64 1, .int .i64 c, .int .i64 x] 30)) base s rv rs c r ys (.tuple #[.int .i64 y, .bool true]))) := T.out
        clear T hx
        go_enter Try.func34, Try.ntmps34
        go_wp2_with fail
        refine TT.out.mono ?_
        intro e w2 hp
        obtain ⟨v', rfl, q⟩ := CONV.out _ _ _ _ hp
        have Q := Lib.hid q; clear q hp
        go_wp2_with fail
        go_ret3
        exact ⟨v', rfl, Q.out⟩
    · have k1 : (kind == 1) = false := by simp [h1]
      have T := Lib.hid (shpeek_any _ base s rv rs c r hA hr hl)
      have hfin : Hid (∃ v', ShAt (w.alloc (.cells #[.int .i64 kind, .int .i64 c, .int .i64 x] 30)) base s rv (rs.set c ⟨r.b, r.room, v', doXs kind r.room r.xs x⟩) ∧ Upd r.foot w (w.alloc (.cells #[.int .i64 kind, .int .i64 c, .int .i64 x] 30)) ∧ (v'.ownBlock = r.v.ownBlock ∨ ∀ g, v'.ownBlock = some g → w.heap.size ≤ g)) := by
        refine ⟨r.v, ?_, Upd.of_below b0, .inl rfl⟩
        have : doXs kind r.room r.xs x = r.xs := by simp [doXs, h0, h1]
        rw [this, set_same hr]
        exact hA
      have hres : Hid (doRes kind r.room r.xs = match r.xs with | [] => .tuple #[.int .i64 0, .bool false, .int .i64 0] | y :: _ => .tuple #[.int .i64 y, .bool true, .int .i64 0]) := by show _ = _; simp only [doRes, h0, if_false]
      rw [hres.out]
      clear h hr hA conv b0 h0 h1 keep hres
      cases hx : r.xs with
      | nil =>
        rw [hx] at T
        have TT : Hid (Calls Try.prog 37 #[.pointer (some ⟨s, 0, none⟩), .int .i64 c] (w.alloc (.cells #[.int .i64 kind, .int .i64 c, .int .i64 x] 30)) (fun e w' => e = .returned (.tuple #[.int .i64 0, .bool false]) ∧ w.alloc (.cells #[.int .i64 kind, .int .i64 c, .int .i64 x] 30) = w')) := T.out
        rw [hx] at hfin
        clear T hx
        go_enter Try.func34, Try.ntmps34
        go_wp2_with fail
        refine TT.out.mono ?_
        rintro e w2 ⟨rfl, rfl⟩
        go_wp2_with fail
        go_ret3
        obtain ⟨v', q⟩ := hfin.out
        exact ⟨v', rfl, q⟩
      | cons y ys =>
        rw [hx] at T
        have TT : Hid (Calls Try.prog 37 #[.pointer (some ⟨s, 0, none⟩), .int .i64 c] (w.alloc (.cells #[.int .i64 kind, .int .i64 c, .int .i64 x] 30)) (fun e w' => e = .returned (.tuple #[.int .i64 y, .bool true]) ∧ w.alloc (.cells #[.int .i64 kind, .int .i64 c, .int .i64 x] 30) = w')) := T.out
        rw [hx] at hfin
        clear T hx
        go_enter Try.func34, Try.ntmps34
        go_wp2_with fail
        refine TT.out.mono ?_
        rintro e w2 ⟨rfl, rfl⟩
        go_wp2_with fail
        go_ret3
        obtain ⟨v', q⟩ := hfin.out
        exact ⟨v', rfl, q⟩
end Go.Proofs.Ytdfncgfcggpgdaa
