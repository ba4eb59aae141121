/-
  A giver and a taker of one class, and the list of noted limits.
-/
import Derived.Test.YtdfmahedhadfoaaOne
import Derived.Test.YtdfmahedhadfoaaTak
import Derived.Test.YtdfmahedhadfoaaOwn
namespace Go.Proofs.Ytdfmahedhadfoaa
open Go.RowKit
set_option linter.unusedVariables false

/-- Blocks g, cb, t, ct lie below BL and apart. -/
structure StA (g cb t ct BL : Nat) : Prop where
  lg : g < BL
  lc : cb < BL
  lt : t < BL
  lct : ct < BL
  a1 : t ≠ cb
  a2 : ct ≠ cb
  a3 : g ≠ ct
/-- The giver holds room n, received b, freed c; the taker sent s, limit m. -/
structure St (W : World) (g cb t ct : Nat) (n b c s m : Int) (w : World) : Prop where
  hG : GAt w W.heap.size g cb [⟨n, b, c⟩]
  hT : TAt w W.heap.size t ct [⟨s, m⟩]
  bel : Below W.heap.size W w
/-- What the events keep. -/
structure StOk (n b c s m fl : Int) : Prop where
  n1 : 1 ≤ n
  n8 : n ≤ 8
  c0 : 0 ≤ c
  cb : c ≤ b
  f0 : 0 ≤ fl
  bs : b + fl ≤ s
  sm : s ≤ m
  mn : m ≤ n + c
  cK : c ≤ 90000
theorem StOk.g {n b c s m fl : Int} (h : StOk n b c s m fl) : GOk ⟨n, b, c⟩ := by
  obtain ⟨h1, h2, h3, h4, h5, h6, h7, h8, h9⟩ := h
  exact ⟨h1, by dsimp only; omega, h3, h4, by dsimp only; omega, by dsimp only; omega⟩
theorem StOk.t {n b c s m fl : Int} (h : StOk n b c s m fl) : TOk ⟨s, m⟩ := by
  obtain ⟨h1, h2, h3, h4, h5, h6, h7, h8, h9⟩ := h
  exact ⟨by dsimp only; omega, h7, by dsimp only; omega⟩
/-- Only blocks cb or ct have turned. -/
def stS (cb ct k : Nat) : Prop := k = cb ∨ k = ct
def StPost (W : World) (g cb t ct : Nat) (n b c s m : Int) (w : World) (res : Value) (e : Ending) (w' : World) : Prop := e = .returned res ∧ St W g cb t ct n b c s m w' ∧ Upd (stS cb ct) w w'
section
variable {W : World} {g cb t ct BL : Nat} {n b c s m fl : Int} {w w' : World}
theorem St.below (h : St W g cb t ct n b c s m w) (q : Below w.heap.size w w') : St W g cb t ct n b c s m w' := ⟨h.hG.below q, h.hT.below q, h.bel.trans (q.mono h.bel.size)⟩
theorem St.cast {n' b' c' s' m' : Int} (h : St W g cb t ct n b c s m w) (h1 : n = n') (h2 : b = b') (h3 : c = c') (h4 : s = s') (h5 : m = m') : St W g cb t ct n' b' c' s' m' w := by subst h1 h2 h3 h4 h5; exact h
theorem St.stepG (h : St W g cb t ct n b c s m w) (A : StA g cb t ct BL) {x' : I3} (hG : GAt w' W.heap.size g cb ([⟨n, b, c⟩].set 0 x')) (u : Upd (fun k => k = cb) w w') : St W g cb t ct x'.a x'.b x'.c s m w' :=
  ⟨hG, h.hT.upd u A.a1 A.a2, Upd.below h.bel u h.bel.size fun i hi => by have := h.hG.b2; omega⟩
theorem St.stepT (h : St W g cb t ct n b c s m w) (A : StA g cb t ct BL) {x' : I2} (hT : TAt w' W.heap.size t ct ([⟨s, m⟩].set 0 x')) (u : Upd (fun k => k = ct) w w') : St W g cb t ct n b c x'.a x'.b w' :=
  ⟨h.hG.upd u A.a3 (Ne.symm A.a2), hT, Upd.below h.bel u h.bel.size fun i hi => by have := h.hT.b2; omega⟩
theorem st_rec (h : St W g cb t ct n b c s m w) (A : StA g cb t ct BL) (k : GOk ⟨n, b, c⟩) (hf : b < n + c) :
    Calls Try.prog 15 #[.pointer (some ⟨g, 0, none⟩), .int .i64 0] w (StPost W g cb t ct n (b + 1) c s m w (.int .i64 0)) :=
  (rec_ok w _ g cb 0 _ ⟨n, b, c⟩ h.hG rfl k (by simp)).mono fun e w' ⟨h1, h2, h3⟩ => by
    have e1 : recX ⟨n, b, c⟩ = ⟨n, b + 1, c⟩ := by unfold recX; rw [if_neg (by dsimp only; omega)]
    have e2 : recE ⟨n, b, c⟩ = 0 := by unfold recE; rw [if_neg (by dsimp only; omega)]
    rw [e1] at h2
    rw [e2] at h1
    exact ⟨h1, h.stepG A h2 h3, h3.mono fun k _ hk => .inl hk⟩
theorem st_recfull (h : St W g cb t ct n b c s m w) (A : StA g cb t ct BL) (k : GOk ⟨n, b, c⟩) (hf : n + c ≤ b) :
    Calls Try.prog 15 #[.pointer (some ⟨g, 0, none⟩), .int .i64 0] w (StPost W g cb t ct n b c s m w (.int .i64 5)) :=
  (rec_ok w _ g cb 0 _ ⟨n, b, c⟩ h.hG rfl k (by simp)).mono fun e w' ⟨h1, h2, h3⟩ => by
    have e1 : recX ⟨n, b, c⟩ = ⟨n, b, c⟩ := by unfold recX; rw [if_pos (by dsimp only; omega)]
    have e2 : recE ⟨n, b, c⟩ = 5 := by unfold recE; rw [if_pos (by dsimp only; omega)]
    rw [e1] at h2
    rw [e2] at h1
    exact ⟨h1, h.stepG A h2 h3, h3.mono fun k _ hk => .inl hk⟩
/-- Free leaves some freed count, and returns something. -/
def StFree (W : World) (g cb t ct : Nat) (n b c s m : Int) (w : World) (e : Ending) (w' : World) : Prop :=
  ∃ (er c' : Int), e = .returned (.int .i64 er) ∧ St W g cb t ct n b c' s m w' ∧ Upd (stS cb ct) w w' ∧ c ≤ c' ∧ c' ≤ c + 1 ∧ c' ≤ b
theorem st_fre (h : St W g cb t ct n b c s m w) (A : StA g cb t ct BL) (k : GOk ⟨n, b, c⟩) :
    Calls Try.prog 16 #[.pointer (some ⟨g, 0, none⟩), .int .i64 0] w (StFree W g cb t ct n b c s m w) :=
  (fre_ok w _ g cb 0 _ ⟨n, b, c⟩ h.hG rfl k (by simp)).mono fun e w' ⟨h1, h2, h3⟩ => by
    have hcb := k.h4
    by_cases hf : b ≤ c
    · have e1 : freX ⟨n, b, c⟩ = ⟨n, b, c⟩ := by unfold freX; rw [if_pos (by dsimp only; omega)]
      rw [e1] at h2
      exact ⟨_, c, h1, h.stepG A h2 h3, h3.mono fun k _ hk => .inl hk, by omega, by omega, hcb⟩
    · have e1 : freX ⟨n, b, c⟩ = ⟨n, b, c + 1⟩ := by unfold freX; rw [if_neg (by dsimp only; omega)]
      rw [e1] at h2
      exact ⟨_, c + 1, h1, h.stepG A h2 h3, h3.mono fun k _ hk => .inl hk, by omega, by omega, by omega⟩
theorem st_aud (x d : Int) (h : St W g cb t ct n b c s m w) (A : StA g cb t ct BL) (k : GOk ⟨n, b, c⟩) (h1 : b ≤ x) (h2 : x ≤ n + c) (hd : x - b = d) :
    Calls Try.prog 14 #[.pointer (some ⟨g, 0, none⟩), .int .i64 0, .int .i64 x] w (StPost W g cb t ct n x (c + d) s m w (.tuple #[.int .i64 d, .int .i64 0])) :=
  (aud_ok w _ g cb 0 x _ ⟨n, b, c⟩ h.hG rfl k (by simp)).mono fun e w' ⟨h3, h4, h5⟩ => by
    have hn : ¬ (x < b ∨ n + c < x) := by omega
    have e1 : audX ⟨n, b, c⟩ x = ⟨n, x, c + d⟩ := by unfold audX; rw [if_neg hn, hd]
    have e2 : audE ⟨n, b, c⟩ x = 0 := by unfold audE; rw [if_neg hn]
    have e3 : audN ⟨n, b, c⟩ x = d := by unfold audN; rw [if_neg hn, hd]
    rw [e1] at h4
    rw [e2, e3] at h3
    exact ⟨h3, h.stepG A h4 h5, h5.mono fun k _ hk => .inl hk⟩
theorem st_lim (h : St W g cb t ct n b c s m w) (k : GOk ⟨n, b, c⟩) :
    Calls Try.prog 17 #[.pointer (some ⟨g, 0, none⟩), .int .i64 0] w (StPost W g cb t ct n b c s m w (.int .i64 (n + c))) :=
  (lim_ok w _ g cb 0 _ ⟨n, b, c⟩ h.hG rfl k (by simp)).mono fun e w' ⟨h1, h2⟩ => ⟨h1, h.below h2, Upd.of_below h2⟩
theorem st_held (h : St W g cb t ct n b c s m w) (k : GOk ⟨n, b, c⟩) :
    Calls Try.prog 18 #[.pointer (some ⟨g, 0, none⟩), .int .i64 0] w (StPost W g cb t ct n b c s m w (.int .i64 (b - c))) :=
  (held_ok w _ g cb 0 _ ⟨n, b, c⟩ h.hG rfl k (by simp)).mono fun e w' ⟨h1, h2⟩ => ⟨h1, h.below h2, Upd.of_below h2⟩
theorem st_tak (h : St W g cb t ct n b c s m w) (A : StA g cb t ct BL) (k : TOk ⟨s, m⟩) (hf : s < m) :
    Calls Try.prog 27 #[.pointer (some ⟨t, 0, none⟩), .int .i64 0] w (StPost W g cb t ct n b c (s + 1) m w (.int .i64 0)) :=
  (tak_ok w _ t ct 0 _ ⟨s, m⟩ h.hT rfl k (by simp)).mono fun e w' ⟨h1, h2, h3⟩ => by
    have e1 : takX ⟨s, m⟩ = ⟨s + 1, m⟩ := by unfold takX; rw [if_neg (by dsimp only; omega)]
    have e2 : takE ⟨s, m⟩ = 0 := by unfold takE; rw [if_neg (by dsimp only; omega)]
    rw [e1] at h2
    rw [e2] at h1
    exact ⟨h1, h.stepT A h2 h3, h3.mono fun k _ hk => .inr hk⟩
theorem st_takfull (h : St W g cb t ct n b c s m w) (A : StA g cb t ct BL) (k : TOk ⟨s, m⟩) (hf : m ≤ s) :
    Calls Try.prog 27 #[.pointer (some ⟨t, 0, none⟩), .int .i64 0] w (StPost W g cb t ct n b c s m w (.int .i64 5)) :=
  (tak_ok w _ t ct 0 _ ⟨s, m⟩ h.hT rfl k (by simp)).mono fun e w' ⟨h1, h2, h3⟩ => by
    have e1 : takX ⟨s, m⟩ = ⟨s, m⟩ := by unfold takX; rw [if_pos (by dsimp only; omega)]
    have e2 : takE ⟨s, m⟩ = 5 := by unfold takE; rw [if_pos (by dsimp only; omega)]
    rw [e1] at h2
    rw [e2] at h1
    exact ⟨h1, h.stepT A h2 h3, h3.mono fun k _ hk => .inr hk⟩
theorem st_rai (x : Int) (h : St W g cb t ct n b c s m w) (A : StA g cb t ct BL) (k : TOk ⟨s, m⟩) (h0 : 0 ≤ x) (h1 : x ≤ 1099511627776) :
    Calls Try.prog 24 #[.pointer (some ⟨t, 0, none⟩), .int .i64 0, .int .i64 x] w (StPost W g cb t ct n b c s (max m x) w (.int .i64 0)) :=
  (rai_ok w _ t ct 0 x _ ⟨s, m⟩ h.hT rfl k (by simp)).mono fun e w' ⟨h3, h4, h5⟩ => by
    have e1 : raiX ⟨s, m⟩ x = ⟨s, max m x⟩ := by unfold raiX; rw [if_neg (by omega)]
    have e2 : raiE ⟨s, m⟩ x = 0 := by unfold raiE; rw [if_neg (by omega)]
    rw [e1] at h4
    rw [e2] at h3
    exact ⟨h3, h.stepT A h4 h5, h5.mono fun k _ hk => .inr hk⟩
theorem st_sent (h : St W g cb t ct n b c s m w) (k : TOk ⟨s, m⟩) :
    Calls Try.prog 26 #[.pointer (some ⟨t, 0, none⟩), .int .i64 0] w (StPost W g cb t ct n b c s m w (.int .i64 s)) :=
  (sent_ok w _ t ct 0 _ ⟨s, m⟩ h.hT rfl k (by simp)).mono fun e w' ⟨h1, h2⟩ => ⟨h1, h.below h2, Upd.of_below h2⟩
theorem st_left (h : St W g cb t ct n b c s m w) (k : TOk ⟨s, m⟩) :
    Calls Try.prog 25 #[.pointer (some ⟨t, 0, none⟩), .int .i64 0] w (StPost W g cb t ct n b c s m w (.int .i64 (m - s))) :=
  (left_ok w _ t ct 0 _ ⟨s, m⟩ h.hT rfl k (by simp)).mono fun e w' ⟨h1, h2⟩ => ⟨h1, h.below h2, Upd.of_below h2⟩
end

/-- The noted limits: a row of the call's own from block BL on. -/
structure Lm (BL : Nat) (n c : Int) (v : Value) (ls : List Int) (w : World) : Prop where
  own : w.ownsRow BL 3 1 v ls.length (ls.map (Value.int .i64))
  ne : ls ≠ []
  rng : ∀ x ∈ ls, 0 ≤ x ∧ x ≤ n + c
  hB : BL ≤ w.heap.size
theorem Lm.upd {BL : Nat} {n c : Int} {v : Value} {ls : List Int} {w w' : World} {g cb t ct : Nat} (h : Lm BL n c v ls w) (A : StA g cb t ct BL) (u : Upd (stS cb ct) w w') : Lm BL n c v ls w' :=
  ⟨own_upd h.own u fun k hk hs => by have := (own_lt h.own hk).2; have := A.lc; have := A.lct; rcases hs with hs | hs <;> omega, h.ne, h.rng, Nat.le_trans h.hB u.size⟩
theorem Lm.up {BL : Nat} {n c c' : Int} {v : Value} {ls : List Int} {w : World} (h : Lm BL n c v ls w) (hc : c ≤ c') : Lm BL n c' v ls w := ⟨h.own, h.ne, fun x hx => ⟨(h.rng x hx).1, by have := (h.rng x hx).2; omega⟩, h.hB⟩
theorem Lm.below {BL : Nat} {n c : Int} {v : Value} {ls : List Int} {w w' : World} (h : Lm BL n c v ls w) (b : Below w.heap.size w w') : Lm BL n c v ls w' :=
  ⟨own_upd (S := fun _ => False) h.own (Upd.of_below b) (fun _ _ => id), h.ne, h.rng, Nat.le_trans h.hB b.size⟩
end Go.Proofs.Ytdfmahedhadfoaa
