/-
  A giver of one class.
-/
import Derived.Test.YtdfmahedhadfoaaAwake
namespace Go.Proofs.Ytdfmahedhadfoaa
open Go.RowKit
set_option linter.unusedVariables false

theorem GAt.base {w : World} {B B' g cb : Nat} {l : List I3} (h : GAt w B g cb l) (hB : B' ≤ B) : GAt w B' g cb l := ⟨h.hg, h.hc, h.ne, Nat.le_trans hB h.b1, Nat.le_trans hB h.b2⟩
/-- A giver of one class with room a, received b, freed c. -/
structure G1 (W : World) (g cb : Nat) (a b c : Int) (w : World) : Prop where
  h : GAt w W.heap.size g cb [⟨a, b, c⟩]
  bel : Below W.heap.size W w
theorem G1.below {W : World} {g cb : Nat} {a b c : Int} {w w' : World} (h : G1 W g cb a b c w) (b' : Below w.heap.size w w') : G1 W g cb a b c w' := ⟨h.h.below b', h.bel.trans (b'.mono h.bel.size)⟩
theorem G1.drew {W : World} {g cb : Nat} {a b c : Int} {w : World} (h : G1 W g cb a b c w) : G1 W g cb a b c w.drew := h.below ((Qt.refl w).drewN 1).bel
theorem G1.cast {W : World} {g cb : Nat} {a b c a' b' c' : Int} {w : World} (h : G1 W g cb a b c w) (h1 : a = a') (h2 : b = b') (h3 : c = c') : G1 W g cb a' b' c' w := by subst h1 h2 h3; exact h
def G1Post (W : World) (g cb : Nat) (a b c : Int) (res : Value) (e : Ending) (w : World) : Prop := e = .returned res ∧ G1 W g cb a b c w
section
variable {W : World} {g cb : Nat} {a b c : Int} {w : World}
theorem G1.step (h : G1 W g cb a b c w) {w' : World} {x' : I3} (hG : GAt w' W.heap.size g cb ([⟨a, b, c⟩].set 0 x')) (u : Upd (fun k => k = cb) w w') : G1 W g cb x'.a x'.b x'.c w' :=
  ⟨hG, Upd.below h.bel u h.bel.size fun i hi => by have := h.h.b2; omega⟩
theorem g1_rec (h : G1 W g cb a b c w) (k : GOk ⟨a, b, c⟩) (hf : b < a + c) :
    Calls Try.prog 15 #[.pointer (some ⟨g, 0, none⟩), .int .i64 0] w (G1Post W g cb a (b + 1) c (.int .i64 0)) :=
  (rec_ok w _ g cb 0 _ ⟨a, b, c⟩ h.h rfl k (by simp)).mono fun e w' ⟨h1, h2, h3⟩ => by
    have e1 : recX ⟨a, b, c⟩ = ⟨a, b + 1, c⟩ := by unfold recX; rw [if_neg (by dsimp only; omega)]
    have e2 : recE ⟨a, b, c⟩ = 0 := by unfold recE; rw [if_neg (by dsimp only; omega)]
    rw [e1] at h2
    rw [e2] at h1
    exact ⟨h1, h.step h2 h3⟩
theorem g1_recfull (h : G1 W g cb a b c w) (k : GOk ⟨a, b, c⟩) (hf : a + c ≤ b) :
    Calls Try.prog 15 #[.pointer (some ⟨g, 0, none⟩), .int .i64 0] w (G1Post W g cb a b c (.int .i64 5)) :=
  (rec_ok w _ g cb 0 _ ⟨a, b, c⟩ h.h rfl k (by simp)).mono fun e w' ⟨h1, h2, h3⟩ => by
    have e1 : recX ⟨a, b, c⟩ = ⟨a, b, c⟩ := by unfold recX; rw [if_pos (by dsimp only; omega)]
    have e2 : recE ⟨a, b, c⟩ = 5 := by unfold recE; rw [if_pos (by dsimp only; omega)]
    rw [e1] at h2
    rw [e2] at h1
    exact ⟨h1, h.step h2 h3⟩
theorem g1_fre (h : G1 W g cb a b c w) (k : GOk ⟨a, b, c⟩) (hf : c < b) :
    Calls Try.prog 16 #[.pointer (some ⟨g, 0, none⟩), .int .i64 0] w (G1Post W g cb a b (c + 1) (.int .i64 0)) :=
  (fre_ok w _ g cb 0 _ ⟨a, b, c⟩ h.h rfl k (by simp)).mono fun e w' ⟨h1, h2, h3⟩ => by
    have e1 : freX ⟨a, b, c⟩ = ⟨a, b, c + 1⟩ := by unfold freX; rw [if_neg (by dsimp only; omega)]
    have e2 : freE ⟨a, b, c⟩ = 0 := by unfold freE; rw [if_neg (by dsimp only; omega)]
    rw [e1] at h2
    rw [e2] at h1
    exact ⟨h1, h.step h2 h3⟩
theorem g1_frenone (h : G1 W g cb a b c w) (k : GOk ⟨a, b, c⟩) (hf : b ≤ c) :
    Calls Try.prog 16 #[.pointer (some ⟨g, 0, none⟩), .int .i64 0] w (G1Post W g cb a b c (.int .i64 7)) :=
  (fre_ok w _ g cb 0 _ ⟨a, b, c⟩ h.h rfl k (by simp)).mono fun e w' ⟨h1, h2, h3⟩ => by
    have e1 : freX ⟨a, b, c⟩ = ⟨a, b, c⟩ := by unfold freX; rw [if_pos (by dsimp only; omega)]
    have e2 : freE ⟨a, b, c⟩ = 7 := by unfold freE; rw [if_pos (by dsimp only; omega)]
    rw [e1] at h2
    rw [e2] at h1
    exact ⟨h1, h.step h2 h3⟩
theorem g1_aud (s d : Int) (h : G1 W g cb a b c w) (k : GOk ⟨a, b, c⟩) (h1 : b ≤ s) (h2 : s ≤ a + c) (hd : s - b = d) :
    Calls Try.prog 14 #[.pointer (some ⟨g, 0, none⟩), .int .i64 0, .int .i64 s] w (G1Post W g cb a s (c + d) (.tuple #[.int .i64 d, .int .i64 0])) :=
  (aud_ok w _ g cb 0 s _ ⟨a, b, c⟩ h.h rfl k (by simp)).mono fun e w' ⟨h3, h4, h5⟩ => by
    have hn : ¬ (s < b ∨ a + c < s) := by omega
    have e1 : audX ⟨a, b, c⟩ s = ⟨a, s, c + d⟩ := by unfold audX; rw [if_neg hn, hd]
    have e2 : audE ⟨a, b, c⟩ s = 0 := by unfold audE; rw [if_neg hn]
    have e3 : audN ⟨a, b, c⟩ s = d := by unfold audN; rw [if_neg hn, hd]
    rw [e1] at h4
    rw [e2, e3] at h3
    exact ⟨h3, h.step h4 h5⟩
theorem g1_audbad (s : Int) (h : G1 W g cb a b c w) (k : GOk ⟨a, b, c⟩) (h1 : s < b ∨ a + c < s) :
    Calls Try.prog 14 #[.pointer (some ⟨g, 0, none⟩), .int .i64 0, .int .i64 s] w (G1Post W g cb a b c (.tuple #[.int .i64 0, .int .i64 2])) :=
  (aud_ok w _ g cb 0 s _ ⟨a, b, c⟩ h.h rfl k (by simp)).mono fun e w' ⟨h3, h4, h5⟩ => by
    have e1 : audX ⟨a, b, c⟩ s = ⟨a, b, c⟩ := by unfold audX; rw [if_pos h1]
    have e2 : audE ⟨a, b, c⟩ s = 2 := by unfold audE; rw [if_pos h1]
    have e3 : audN ⟨a, b, c⟩ s = 0 := by unfold audN; rw [if_pos h1]
    rw [e1] at h4
    rw [e2, e3] at h3
    exact ⟨h3, h.step h4 h5⟩
theorem g1_lim (h : G1 W g cb a b c w) (k : GOk ⟨a, b, c⟩) :
    Calls Try.prog 17 #[.pointer (some ⟨g, 0, none⟩), .int .i64 0] w (G1Post W g cb a b c (.int .i64 (a + c))) :=
  (lim_ok w _ g cb 0 _ ⟨a, b, c⟩ h.h rfl k (by simp)).mono fun e w' ⟨h1, h2⟩ => ⟨h1, h.below h2⟩
theorem g1_held (h : G1 W g cb a b c w) (k : GOk ⟨a, b, c⟩) :
    Calls Try.prog 18 #[.pointer (some ⟨g, 0, none⟩), .int .i64 0] w (G1Post W g cb a b c (.int .i64 (b - c))) :=
  (held_ok w _ g cb 0 _ ⟨a, b, c⟩ h.h rfl k (by simp)).mono fun e w' ⟨h1, h2⟩ => ⟨h1, h.below h2⟩
end
/-- A new giver of one room n, behind a slice literal. -/
theorem newG_one (w : World) (n : Nat) (h1 : 1 ≤ n) (h64 : n ≤ 64) :
    Calls Try.prog 13 #[.slice (some ⟨w.heap.size, 0, none⟩) 1 1] (w.alloc (.cells #[.int .i64 n] 3))
      fun e w' => e = .returned (.tuple #[.pointer (some ⟨w.heap.size + 2, 0, none⟩), .int .i64 0]) ∧ G1 w (w.heap.size + 2) (w.heap.size + 1) n 0 0 w' := by
  have SL : SlI (w.alloc (.cells #[.int .i64 n] 3)) (some ⟨w.heap.size, 0, none⟩) [(n : Int)] := Blk.sl (f := Value.int .i64) (T := 3) (Blk.new w _ [.int .i64 n])
  refine (newG_any (w.alloc (.cells #[.int .i64 n] 3)) (some ⟨w.heap.size, 0, none⟩) 1 [(n : Int)] SL (by unfold maxLen; simp)).mono ?_
  rintro e w1 (⟨_, rfl, hG, hB, hz⟩ | ⟨h, _⟩)
  · rw [World.size_alloc] at hG hB hz
    exact ⟨by rw [World.size_alloc], hG.base (by omega), ((Below.refl _ w).alloc (Nat.le_refl _) _).trans (hB.mono (by omega))⟩
  · exact absurd ⟨by simp, by simp, by intro z hz; simp at hz; subst hz; omega⟩ h
end Go.Proofs.Ytdfmahedhadfoaa
