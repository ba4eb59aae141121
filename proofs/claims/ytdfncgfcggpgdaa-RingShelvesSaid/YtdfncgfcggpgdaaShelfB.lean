/-
  Contracts of Put, Take, Peek of a shelf.
-/
import Derived.Test.YtdfncgfcggpgdaaShelf
namespace Go.Proofs.Ytdfncgfcggpgdaa
open Go.RowKit
set_option linter.unusedVariables false

theorem set_same {α : Type} {l : List α} {c : Nat} {r : α} (h : l[c]? = some r) : l.set c r = l := by
  apply List.ext_getElem?
  intro i
  rw [List.getElem?_set]
  split
  · rename_i e
    subst e
    have : c < l.length := by
      rcases Nat.lt_or_ge c l.length with h1 | h1
      · exact h1
      · simp [List.getElem?_eq_none h1] at h
    rw [if_pos this, h]
  · rfl

def ShPost (w : World) (base s : Nat) (rv : Value) (rs : List RSt) (c : Nat) (r : RSt) (xs' : List Int) (res : Value) (e : Ending) (w' : World) : Prop :=
  ∃ v', e = .returned res ∧ ShAt w' base s rv (rs.set c ⟨r.b, r.room, v', xs'⟩) ∧ Upd r.foot w w' ∧ (v'.ownBlock = r.v.ownBlock ∨ ∀ g, v'.ownBlock = some g → w.heap.size ≤ g)

def putXs (room : Nat) (xs : List Int) (x : Int) : List Int := if xs.length < room then xs ++ [x] else xs
def putRes (room : Nat) (xs : List Int) : Int := if xs.length < room then 0 else 5

set_option maxHeartbeats 1000000 in
theorem shput_any (w : World) (base s : Nat) (rv : Value) (rs : List RSt) (c : Nat) (r : RSt) (x : Int) (h : ShAt w base s rv rs) (hr : rs[c]? = some r) (hl : rs.length ≤ 1000) (hbase : base ≤ w.heap.size) :
    Calls Try.prog 35 #[.pointer (some ⟨s, 0, none⟩), .int .i64 c, .int .i64 x] w (ShPost w base s rv rs c r (putXs r.room r.xs x) (.int .i64 (putRes r.room r.xs))) := by
  have H := Lib.hid h; have HR := Lib.hid hr
  obtain ⟨hRI, _, hroom, hlen⟩ := h.rings c r hr
  have SR := Lib.hid (shring_ok w base s rv rs c r h hr hl)
  by_cases hlt : r.xs.length < r.room
  · have P := Lib.hid (putI_ok w base r.b r.room r.v r.xs x hRI hlt (by omega) hbase)
    have hx : Hid (putXs r.room r.xs x = r.xs ++ [x] ∧ putRes r.room r.xs = 0) := by constructor <;> simp [putXs, putRes, hlt]
    rw [hx.out.1, hx.out.2]
    have HLT := Lib.hid hlt
    clear h hr hRI hlt
    go_enter Try.func35, Try.ntmps35
    go_wp2_with fail
    refine SR.out.mono ?_
    rintro e w1 ⟨rfl, rfl⟩
    go_wp2_with fail
    refine P.out.mono ?_
    rintro e w2 ⟨v', rfl, hR', hU, hv⟩
    have T := Lib.hid (H.out.turn HR.out hU hR' (by have := HLT.out; simp; omega) hv)
    have HU := Lib.hid hU; have HV := Lib.hid hv
    clear hR' hU hv
    go_wp2_with fail
    go_ret
    exact ⟨v', rfl, T.out, HU.out, HV.out⟩
  · have P := Lib.hid (putI_full w base r.b r.room r.v r.xs x hRI (by omega))
    have hx : Hid (putXs r.room r.xs x = r.xs ∧ putRes r.room r.xs = 5) := by constructor <;> simp [putXs, putRes, hlt]
    rw [hx.out.1, hx.out.2]
    clear h hr hRI hlt
    go_enter Try.func35, Try.ntmps35
    go_wp2_with fail
    refine SR.out.mono ?_
    rintro e w1 ⟨rfl, rfl⟩
    go_wp2_with fail
    refine P.out.mono ?_
    rintro e w2 ⟨rfl, hq⟩
    have Q := Lib.hid hq; clear hq
    go_wp2_with fail
    go_ret
    exact ⟨r.v, rfl, by rw [set_same HR.out]; exact H.out.qt Q.out, Upd.of_below Q.out.bel, .inl rfl⟩

set_option maxHeartbeats 1000000 in
theorem shput_out (w : World) (base s : Nat) (rv : Value) (rs : List RSt) (c x : Int) (h : ShAt w base s rv rs) (hc : c < 0 ∨ rs.length ≤ c) (hl : rs.length ≤ 1000) :
    Calls Try.prog 35 #[.pointer (some ⟨s, 0, none⟩), .int .i64 c, .int .i64 x] w fun e w' => e = .returned (.int .i64 2) ∧ w = w' := by
  have SR := Lib.hid (shring_out w base s rv rs c h hc hl)
  clear h hc
  go_enter Try.func35, Try.ntmps35
  go_wp2_with fail
  refine SR.out.mono ?_
  rintro e w1 ⟨rfl, rfl⟩
  go_wp2_with fail
  go_ret
  exact ⟨rfl, rfl⟩

set_option maxHeartbeats 1000000 in
theorem shput_nil (w : World) (c x : Int) : Calls Try.prog 35 #[.pointer none, .int .i64 c, .int .i64 x] w fun e w' => e = .returned (.int .i64 1) ∧ w = w' := by
  go_enter Try.func35, Try.ntmps35
  go_wp2_with fail
  go_ret
  exact ⟨rfl, rfl⟩

def takeRes : List Int → Value
  | [] => .tuple #[.int .i64 0, .bool false]
  | x :: _ => .tuple #[.int .i64 x, .bool true]

set_option maxHeartbeats 1000000 in
theorem shtake_any (w : World) (base s : Nat) (rv : Value) (rs : List RSt) (c : Nat) (r : RSt) (h : ShAt w base s rv rs) (hr : rs[c]? = some r) (hl : rs.length ≤ 1000) :
    Calls Try.prog 36 #[.pointer (some ⟨s, 0, none⟩), .int .i64 c] w (ShPost w base s rv rs c r r.xs.tail (takeRes r.xs)) := by
  have H := Lib.hid h; have HR := Lib.hid hr
  obtain ⟨hRI, _, hroom, hlen⟩ := h.rings c r hr
  have SR := Lib.hid (shring_ok w base s rv rs c r h hr hl)
  obtain ⟨b, room, v, xs⟩ := r
  dsimp only at *
  cases xs with
  | nil =>
    have P := Lib.hid (takeI_none w base b room v hRI)
    clear h hr hRI
    go_enter Try.func36, Try.ntmps36
    go_wp2_with fail
    refine SR.out.mono ?_
    rintro e w1 ⟨rfl, rfl⟩
    go_wp2_with fail
    refine P.out.mono ?_
    rintro e w2 ⟨rfl, rfl⟩
    go_wp2_with fail
    go_ret2
    exact ⟨v, rfl, by rw [show ([] : List Int).tail = [] from rfl, set_same HR.out]; exact H.out, Upd.refl _ _, .inl rfl⟩
  | cons x xs =>
    have P := Lib.hid (takeI_some w base b room v x xs hRI)
    have HL := Lib.hid hlen
    clear h hr hRI hlen
    go_enter Try.func36, Try.ntmps36
    go_wp2_with fail
    refine SR.out.mono ?_
    rintro e w1 ⟨rfl, rfl⟩
    go_wp2_with fail
    refine P.out.mono ?_
    rintro e w2 ⟨v', rfl, hR', hU, hv⟩
    have T := Lib.hid (H.out.turn HR.out hU hR' (by have := HL.out; simp at this ⊢; omega) (.inl hv))
    have HU := Lib.hid hU; have HV := Lib.hid hv
    clear hR' hU hv
    go_wp2_with fail
    go_ret2
    exact ⟨v', rfl, T.out, HU.out, .inl HV.out⟩

set_option maxHeartbeats 1000000 in
theorem shtake_out (w : World) (base s : Nat) (rv : Value) (rs : List RSt) (c : Int) (h : ShAt w base s rv rs) (hc : c < 0 ∨ rs.length ≤ c) (hl : rs.length ≤ 1000) :
    Calls Try.prog 36 #[.pointer (some ⟨s, 0, none⟩), .int .i64 c] w fun e w' => e = .returned (.tuple #[.int .i64 0, .bool false]) ∧ w = w' := by
  have SR := Lib.hid (shring_out w base s rv rs c h hc hl)
  have P := Lib.hid takeI_nil
  clear h hc
  go_enter Try.func36, Try.ntmps36
  go_wp2_with fail
  refine SR.out.mono ?_
  rintro e w1 ⟨rfl, rfl⟩
  go_wp2_with fail
  refine (P.out _).mono ?_
  rintro e w2 ⟨rfl, rfl⟩
  go_wp2_with fail
  go_ret2
  exact ⟨rfl, rfl⟩

set_option maxHeartbeats 1000000 in
theorem shtake_nil (w : World) (c : Int) : Calls Try.prog 36 #[.pointer none, .int .i64 c] w fun e w' => e = .returned (.tuple #[.int .i64 0, .bool false]) ∧ w = w' := by
  have SR := Lib.hid (shring_nil w c)
  have P := Lib.hid takeI_nil
  go_enter Try.func36, Try.ntmps36
  go_wp2_with fail
  refine SR.out.mono ?_
  rintro e w1 ⟨rfl, rfl⟩
  go_wp2_with fail
  refine (P.out _).mono ?_
  rintro e w2 ⟨rfl, rfl⟩
  go_wp2_with fail
  go_ret2
  exact ⟨rfl, rfl⟩

set_option maxHeartbeats 1000000 in
theorem shpeek_any (w : World) (base s : Nat) (rv : Value) (rs : List RSt) (c : Nat) (r : RSt) (h : ShAt w base s rv rs) (hr : rs[c]? = some r) (hl : rs.length ≤ 1000) :
    Calls Try.prog 37 #[.pointer (some ⟨s, 0, none⟩), .int .i64 c] w fun e w' => e = .returned (takeRes r.xs) ∧ w = w' := by
  obtain ⟨hRI, _⟩ := h.rings c r hr
  have SR := Lib.hid (shring_ok w base s rv rs c r h hr hl)
  obtain ⟨b, room, v, xs⟩ := r
  dsimp only at *
  cases xs with
  | nil =>
    have P := Lib.hid (peekI_none w base b room v hRI)
    clear h hr hRI
    go_enter Try.func37, Try.ntmps37
    go_wp2_with fail
    refine SR.out.mono ?_
    rintro e w1 ⟨rfl, rfl⟩
    go_wp2_with fail
    refine P.out.mono ?_
    rintro e w2 ⟨rfl, rfl⟩
    go_wp2_with fail
    go_ret2
    exact ⟨rfl, rfl⟩
  | cons x xs =>
    have P := Lib.hid (peekI_some w base b room v x xs hRI)
    clear h hr hRI
    go_enter Try.func37, Try.ntmps37
    go_wp2_with fail
    refine SR.out.mono ?_
    rintro e w1 ⟨rfl, rfl⟩
    go_wp2_with fail
    refine P.out.mono ?_
    rintro e w2 ⟨rfl, rfl⟩
    go_wp2_with fail
    go_ret2
    exact ⟨rfl, rfl⟩

set_option maxHeartbeats 1000000 in
theorem shpeek_out (w : World) (base s : Nat) (rv : Value) (rs : List RSt) (c : Int) (h : ShAt w base s rv rs) (hc : c < 0 ∨ rs.length ≤ c) (hl : rs.length ≤ 1000) :
    Calls Try.prog 37 #[.pointer (some ⟨s, 0, none⟩), .int .i64 c] w fun e w' => e = .returned (.tuple #[.int .i64 0, .bool false]) ∧ w = w' := by
  have SR := Lib.hid (shring_out w base s rv rs c h hc hl)
  have P := Lib.hid peekI_nil
  clear h hc
  go_enter Try.func37, Try.ntmps37
  go_wp2_with fail
  refine SR.out.mono ?_
  rintro e w1 ⟨rfl, rfl⟩
  go_wp2_with fail
  refine (P.out _).mono ?_
  rintro e w2 ⟨rfl, rfl⟩
  go_wp2_with fail
  go_ret2
  exact ⟨rfl, rfl⟩

set_option maxHeartbeats 1000000 in
theorem shpeek_nil (w : World) (c : Int) : Calls Try.prog 37 #[.pointer none, .int .i64 c] w fun e w' => e = .returned (.tuple #[.int .i64 0, .bool false]) ∧ w = w' := by
  have SR := Lib.hid (shring_nil w c)
  have P := Lib.hid peekI_nil
  go_enter Try.func37, Try.ntmps37
  go_wp2_with fail
  refine SR.out.mono ?_
  rintro e w1 ⟨rfl, rfl⟩
  go_wp2_with fail
  refine (P.out _).mono ?_
  rintro e w2 ⟨rfl, rfl⟩
  go_wp2_with fail
  go_ret2
  exact ⟨rfl, rfl⟩
end Go.Proofs.Ytdfncgfcggpgdaa
