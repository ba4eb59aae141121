/-
  The walk of the law RingApart.
-/
import Derived.Test.YtdfncgfcggpgdaaTwo
namespace Go.Proofs.Ytdfncgfcggpgdaa
open Go.RowKit
set_option linter.unusedVariables false

set_option maxHeartbeats 2000000 in
theorem do_out (w : World) (base s : Nat) (rv : Value) (rs : List RSt) (c kind x : Int) (h : ShAt w base s rv rs) (hc : c < 0 ∨ rs.length ≤ c) (hl : rs.length ≤ 1000) :
    Calls Try.prog 34 #[.pointer (some ⟨s, 0, none⟩), .agg #[.int .i64 kind, .int .i64 c, .int .i64 x]] w
      fun e w' => e = .returned (outRes kind) ∧ Below w.heap.size w w' := by
  have b0 : Below w.heap.size w (w.alloc (.cells #[.int .i64 kind, .int .i64 c, .int .i64 x] 30)) := (Below.refl _ _).alloc (Nat.le_refl _) _
  have hA := h.below b0
  have B0 := Lib.hid b0
  by_cases h0 : kind = 0
  · subst h0
    have P := Lib.hid (shput_out _ base s rv rs c x hA hc hl)
    have e : outRes 0 = .tuple #[.int .i64 0, .bool false, .int .i64 2] := by simp [outRes]
    rw [e]
    clear h hA hc b0 e
    go_enter Try.func34, Try.ntmps34
    go_wp2_with fail
    refine P.out.mono ?_
    rintro e w2 ⟨rfl, rfl⟩
    go_wp2_with fail
    go_ret3
    exact ⟨rfl, B0.out⟩
  · have k0 : (kind == 0) = false := by simp [h0]
    have e : outRes kind = .tuple #[.int .i64 0, .bool false, .int .i64 0] := by simp [outRes, h0]
    rw [e]
    by_cases h1 : kind = 1
    · subst h1
      have P := Lib.hid (shtake_out _ base s rv rs c hA hc hl)
      clear h hA hc b0 e h0
      go_enter Try.func34, Try.ntmps34
      go_wp2_with fail
      refine P.out.mono ?_
      rintro e w2 ⟨rfl, rfl⟩
      go_wp2_with fail
      go_ret3
      exact ⟨rfl, B0.out⟩
    · have k1 : (kind == 1) = false := by simp [h1]
      have P := Lib.hid (shpeek_out _ base s rv rs c hA hc hl)
      clear h hA hc b0 e h0 h1
      go_enter Try.func34, Try.ntmps34
      go_wp2_with fail
      refine P.out.mono ?_
      rintro e w2 ⟨rfl, rfl⟩
      go_wp2_with fail
      go_ret3
      exact ⟨rfl, B0.out⟩

/-- Two shelves that share no block: the first holds qa, the second the same in class c and nothing else. -/
structure TwoAt (W w : World) (ba sa bb sb : Nat) (c : Nat) (rva : Value) (rsa : List RSt) (rvb : Value) (rsb : List RSt) : Prop where
  ha : ShAt w ba sa rva rsa
  hb : ShAt w bb sb rvb rsb
  la : rsa.length = 3
  lb : rsb.length = 3
  same : ∃ p q, rsa[c]? = some p ∧ rsb[c]? = some q ∧ p.room = q.room ∧ p.xs = q.xs
  oth : ∀ (i : Nat) (q : RSt), rsb[i]? = some q → i ≠ c → q.xs = []
  apart : ∀ k, shF sa rva rsa k → ¬ shF sb rvb rsb k
  wa : W.heap.size ≤ ba
  wb : W.heap.size ≤ bb
  bel : Below W.heap.size W w

theorem TwoAt.below {W w w' : World} {ba sa bb sb c : Nat} {rva : Value} {rsa : List RSt} {rvb : Value} {rsb : List RSt} (h : TwoAt W w ba sa bb sb c rva rsa rvb rsb) (b : Below w.heap.size w w') : TwoAt W w' ba sa bb sb c rva rsa rvb rsb :=
  ⟨h.ha.below b, h.hb.below b, h.la, h.lb, h.same, h.oth, h.apart, h.wa, h.wb, h.bel.trans (b.mono h.bel.size)⟩

theorem shF_set {s : Nat} {rv : Value} {rs : List RSt} {j : Nat} {r : RSt} {v' : Value} {xs' : List Int} {H : Nat} (hr : rs[j]? = some r) (hv : v'.ownBlock = r.v.ownBlock ∨ ∀ g, v'.ownBlock = some g → H ≤ g) {k : Nat}
    (hk : shF s rv (rs.set j ⟨r.b, r.room, v', xs'⟩) k) : shF s rv rs k ∨ H ≤ k := by
  rcases hk with h | h | ⟨i, q, hq, hk⟩
  · exact .inl (.inl h)
  · exact .inl (.inr (.inl h))
  · rw [List.getElem?_set] at hq
    by_cases e : j = i
    · rw [if_pos e] at hq
      split at hq
      · obtain rfl := Option.some.inj hq
        rcases hk with hk | hk
        · exact .inl (.inr (.inr ⟨j, r, hr, .inl hk⟩))
        · rcases hv with hv | hv
          · exact .inl (.inr (.inr ⟨j, r, hr, .inr (by rw [← hv]; exact hk)⟩))
          · exact .inr (hv k hk)
      · simp at hq
    · rw [if_neg e] at hq
      exact .inl (.inr (.inr ⟨i, q, hq, hk⟩))

theorem upd_below {W w w' : World} {base s : Nat} {rv : Value} {rs : List RSt} {j : Nat} {r : RSt} (hb : Below W.heap.size W w) (h : ShAt w base s rv rs) (hr : rs[j]? = some r) (u : Upd r.foot w w') (h1 : W.heap.size ≤ base) : Below W.heap.size W w' :=
  Upd.below hb u hb.size fun i hi => Nat.le_trans h1 (h.foot_lt hr hi).2

/-- The first shelf has turned in a class j other than c. -/
theorem TwoAt.stepA {W w w' : World} {ba sa bb sb c : Nat} {rva : Value} {rsa : List RSt} {rvb : Value} {rsb : List RSt} (h : TwoAt W w ba sa bb sb c rva rsa rvb rsb) {j : Nat} {r : RSt} (hr : rsa[j]? = some r) (hj : j ≠ c) {v' : Value} {xs' : List Int}
    (hs : ShAt w' ba sa rva (rsa.set j ⟨r.b, r.room, v', xs'⟩)) (u : Upd r.foot w w') (hv : v'.ownBlock = r.v.ownBlock ∨ ∀ g, v'.ownBlock = some g → w.heap.size ≤ g) : TwoAt W w' ba sa bb sb c rva (rsa.set j ⟨r.b, r.room, v', xs'⟩) rvb rsb := by
  have hfa : ∀ k, r.foot k → ¬ shF sb rvb rsb k := fun k hk => h.apart k (.inr (.inr ⟨j, r, hr, hk⟩))
  refine ⟨hs, h.hb.upd u (fun hk => hfa _ hk (.inl rfl)) (fun k hg hk => hfa _ hk (.inr (.inl hg))) (fun i q hq k hk hk' => hfa _ hk' (.inr (.inr ⟨i, q, hq, hk⟩))), by rw [List.length_set]; exact h.la, h.lb, ?_, h.oth, ?_, h.wa, h.wb, upd_below h.bel h.ha hr u h.wa⟩
  · obtain ⟨p, q, hp, hq, e⟩ := h.same
    refine ⟨p, q, ?_, hq, e⟩
    rw [List.getElem?_set, if_neg hj]
    exact hp
  · intro k hk hk'
    rcases shF_set hr hv hk with h1 | h1
    · exact h.apart k h1 hk'
    · have := (h.hb.f_lt hk').1; omega

/-- Both have turned in class c, alike. -/
theorem TwoAt.stepAB {W w w1 w' : World} {ba sa bb sb c : Nat} {rva : Value} {rsa : List RSt} {rvb : Value} {rsb : List RSt} (h : TwoAt W w ba sa bb sb c rva rsa rvb rsb) {p q : RSt} (hp : rsa[c]? = some p) (hq : rsb[c]? = some q) (hroom : p.room = q.room)
    {v' v2 : Value} {xs' : List Int} (hs : ShAt w1 ba sa rva (rsa.set c ⟨p.b, p.room, v', xs'⟩)) (u : Upd p.foot w w1) (hv : v'.ownBlock = p.v.ownBlock ∨ ∀ g, v'.ownBlock = some g → w.heap.size ≤ g)
    (hs2 : ShAt w' bb sb rvb (rsb.set c ⟨q.b, q.room, v2, xs'⟩)) (u2 : Upd q.foot w1 w') (hv2 : v2.ownBlock = q.v.ownBlock ∨ ∀ g, v2.ownBlock = some g → w1.heap.size ≤ g) :
    TwoAt W w' ba sa bb sb c rva (rsa.set c ⟨p.b, p.room, v', xs'⟩) rvb (rsb.set c ⟨q.b, q.room, v2, xs'⟩) := by
  have hcl : c < rsa.length := by
    rcases Nat.lt_or_ge c rsa.length with h | h
    · exact h
    · simp [List.getElem?_eq_none h] at hp
  have hcl2 : c < rsb.length := by
    rcases Nat.lt_or_ge c rsb.length with h | h
    · exact h
    · simp [List.getElem?_eq_none h] at hq
  have ap1 : ∀ k, shF sa rva (rsa.set c ⟨p.b, p.room, v', xs'⟩) k → ¬ shF sb rvb rsb k := by
    intro k hk hk'
    rcases shF_set hp hv hk with h1 | h1
    · exact h.apart k h1 hk'
    · have := (h.hb.f_lt hk').1; omega
  have hfb : ∀ k, q.foot k → ¬ shF sa rva (rsa.set c ⟨p.b, p.room, v', xs'⟩) k := fun k hk hk' => ap1 k hk' (.inr (.inr ⟨c, q, hq, hk⟩))
  have hb1 : ShAt w1 bb sb rvb rsb := by
    have hfa : ∀ k, p.foot k → ¬ shF sb rvb rsb k := fun k hk => h.apart k (.inr (.inr ⟨c, p, hp, hk⟩))
    exact h.hb.upd u (fun hk => hfa _ hk (.inl rfl)) (fun k hg hk => hfa _ hk (.inr (.inl hg))) (fun i q hq k hk hk' => hfa _ hk' (.inr (.inr ⟨i, q, hq, hk⟩)))
  refine ⟨hs.upd u2 (fun hk => hfb _ hk (.inl rfl)) (fun k hg hk => hfb _ hk (.inr (.inl hg))) (fun i q hq k hk hk' => hfb _ hk' (.inr (.inr ⟨i, q, hq, hk⟩))), hs2, by rw [List.length_set]; exact h.la, by rw [List.length_set]; exact h.lb, ?_, ?_, ?_, h.wa, h.wb, ?_⟩
  · refine ⟨⟨p.b, p.room, v', xs'⟩, ⟨q.b, q.room, v2, xs'⟩, ?_, ?_, hroom, rfl⟩
    · rw [List.getElem?_set, if_pos rfl, if_pos hcl]
    · rw [List.getElem?_set, if_pos rfl, if_pos hcl2]
  · intro i r hr hi
    rw [List.getElem?_set, if_neg (Ne.symm hi)] at hr
    exact h.oth i r hr hi
  · intro k hk hk'
    rcases shF_set hq hv2 hk' with h1 | h1
    · exact ap1 k hk h1
    · have := (hs.f_lt hk).1; omega
  · exact upd_below (upd_below h.bel h.ha hp u h.wa) hb1 hq u2 h.wb
end Go.Proofs.Ytdfncgfcggpgdaa
