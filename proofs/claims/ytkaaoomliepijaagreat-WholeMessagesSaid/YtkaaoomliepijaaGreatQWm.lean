/-
  The last rounds plainly; the new post's state.
-/
import Derived.Test.YtkaaoomliepijaaGreatQWf
namespace Go.Proofs.YtkaaoomliepijaaGreat
open Go.RowKit
set_option linter.unusedVariables false

/-- What is left to be done. -/
def muP (x : PoV) : Nat := boxR x.ms + ((strmM 0 x.ms).length - x.t.rd) + x.t.D
def RndI (i : Nat) (x : PoV) : Prop := i = 0 ∨ (Setl x.t ∧ (muP x + i ≤ 1061 ∨ muP x = 0))
theorem rnd_step {j f i : Nat} {x x1 x' : PoV} {tick : Int} (h : QInv j f x) (hj : j ≤ 80) (hA : SendA x x1 tick 16) (hR : RndI i x) (et : x'.t = x.t.round (strmM 0 x1.ms).length 16) (em : x'.ms = x1.ms) : RndI (i + 1) x' := by
  obtain ⟨I1, Z, hZ⟩ := h.sa hA
  obtain ⟨st, _⟩ := sa_eq hA
  have Iw := I1.wt
  rw [st] at Iw
  have l := h.rdl
  have hD := Wt.D_le x'.t
  have htot := I1.mi.tot
  have hset : Setl x'.t := by
    have hI : ∀ u : Wt, WtI (strmM 0 x1.ms).length u → Setl u.take := fun u hu => hu.setl
    rw [et]
    unfold Wt.round
    refine hI _ ?_
    by_cases hg : (x.t.write (strmM 0 x1.ms).length).goes = true
    · rw [if_pos hg]
      exact (Iw.write.tick 16).deliv (Iw.write.sent 16 hg)
    · rw [if_neg hg]
      exact Iw.write.tick 16
  refine .inr ⟨hset, ?_⟩
  unfold muP
  rw [em]
  rcases hR with rfl | ⟨hs, hR⟩
  · left; omega
  · obtain ⟨_, _, r1, r2⟩ := round_step Iw hs
    rw [← et] at r1 r2
    have hb : boxR x1.ms + (strmM 0 x1.ms).length ≤ boxR x.ms + (strmM 0 x.ms).length := by
      rcases hA with ⟨_, rfl⟩ | ⟨_, ov, rfl⟩
      · exact Nat.le_refl _
      · have h1 := h.mi.less tick 16
        have h2 := (h.mi.next tick 16).2
        dsimp only
        rw [h2, List.length_append]
        omega
    have hgr : (strmM 0 x.ms).length ≤ (strmM 0 x1.ms).length := by rw [hZ, List.length_append]; omega
    have hmu : muP x = boxR x.ms + ((strmM 0 x.ms).length - x.t.rd) + x.t.D := rfl
    rcases r2 with r2 | ⟨q1, q2, q3, q4⟩
    · rcases hR with hR | hR
      · left; omega
      · left; omega
    · right
      have h0 : boxR x1.ms = 0 := by
        rcases hA with ⟨hne, rfl⟩ | ⟨_, ov, rfl⟩
        · exact absurd (by have := h.pl; rw [q2, List.drop_length] at this; exact this) hne
        · have h2 := (h.mi.next tick 16).2
          refine h.mi.none tick (by decide) ?_
          dsimp only at q1
          rw [h2, List.length_append] at q1
          exact List.eq_nil_of_length_eq_zero (by omega)
      omega
theorem snd_bd {L most : Nat} {t : Wt} (I : WtI L t) (hg : t.goes = true) (hm : 1 ≤ most) : 1 ≤ t.snd most ∧ t.snd most ≤ 24 := by
  unfold Wt.goes at hg
  simp only [Bool.and_eq_true, decide_eq_true_eq] at hg
  have := I.a1
  unfold Wt.snd
  omega
/-- What one round sends and what it makes of the end. -/
theorem rd_facts {j pl : Nat} {x x1 x2 : PoV} {tick : Int} (I : QInv j 0 x) (hA : SendA x x1 tick 16) (hpl : x.t.plc = pl) (hp : pl ≤ 1) (hB : SendB x1 x2 (strmM 0 x1.ms).length pl 16) : ∃ t1 : Wt, x2.ms = x1.ms ∧ t1.take = x.t.round (strmM 0 x1.ms).length 16 ∧
    ((x2.fl = [] ∧ t1 = x2.t) ∨ ∃ (g : Fl) (o n : Nat), x2.fl = [g] ∧ g.pl = pl ∧ g.d = encH o n ++ segT (tS (strmM 0 x2.ms)) o n ∧ 1 ≤ n ∧ n ≤ 24 ∧ o + n ≤ x2.t.tp ∧ t1 = x2.t.deliv pl o n) := by
  obtain ⟨I1, Z, hZ⟩ := I.sa hA
  obtain ⟨st, _, _, _, sf⟩ := sa_eq hA
  have hf0 : x1.fl = [] := by rw [sf]; exact List.eq_nil_of_length_eq_zero (Nat.le_zero.1 I.fn)
  obtain ⟨I2, e1, e2, hc⟩ := I1.sb hp (by decide) hB
  rw [st] at e2 hc
  have Iw := I1.wt
  rw [st] at Iw
  rcases hc with ⟨hg, g, g1, g2, g3⟩ | ⟨hg, g1⟩
  · obtain ⟨s1, s2⟩ := snd_bd Iw.write hg (most := 16) (by decide)
    have s3 := Iw.write.sent 16 hg
    refine ⟨x2.t.deliv pl x.t.nx ((x.t.write (strmM 0 x1.ms).length).snd 16), e1, ?_, .inr ⟨g, x.t.nx, _, by rw [g1, hf0]; rfl, g2, by rw [e1]; exact g3, s1, s2, by rw [e2]; exact s3, rfl⟩⟩
    unfold Wt.round
    rw [if_pos hg, e2, hpl]
    rfl
  · refine ⟨x2.t, e1, ?_, .inl ⟨by rw [g1, hf0], rfl⟩⟩
    unfold Wt.round
    rw [if_neg (by rw [hg]; decide), e2]
theorem rnd_end {j f : Nat} {x : PoV} (h : QInv j f x) (hj : j ≤ 80) (hR : RndI 1200 x) : (∀ m ∈ x.ms, 3 ≤ m.st ∧ m.st ≤ 5) ∧ x.ol.map RwB.d = sentL x.ms := by
  have h0 : muP x = 0 := by
    rcases hR with hR | ⟨_, hR | hR⟩
    · omega
    · omega
    · exact hR
  have hmu : muP x = boxR x.ms + ((strmM 0 x.ms).length - x.t.rd) + x.t.D := rfl
  have l := h.rdl
  obtain ⟨f1, f2⟩ := h.mi.fin (by omega) (by omega)
  refine ⟨fun m hm => ⟨f1 m hm, (h.mi.a.ok m hm).ok.s5⟩, ?_⟩
  rw [h.ol, List.take_of_length_le (by omega), f2]
theorem new_inv {w : World} {x : PoV} (h : New0 w x) : QInv 0 0 x ∧ strmM 0 x.ms = [] := by
  obtain ⟨_, e2, e3, e4, _, e6, _, e8, _, e10, _, e12, e13, e14⟩ := h
  have hS : strmM 0 x.ms = [] := by rw [e13]; rfl
  have hg : gate ([] : List Int) (-1) = ⟨[], [], -1, false⟩ := rfl
  refine ⟨⟨by rw [e13]; exact MI.nil, by omega, ?_, ?_, ?_, ?_, ?_, ?_, ?_, ?_, ?_⟩, hS⟩
  · rw [hS, e14]
    exact ⟨Nat.le_refl _, Nat.le_refl _, Nat.le_refl _, Nat.le_refl _, by show 0 ≤ 0 + 24; omega, by show 0 ≤ 2; omega, Nat.le_refl _, Nat.le_refl _, by show 0 ≤ 2; omega, fun _ => ⟨SrI.new _ _, Nat.le_refl _⟩, fun hp => absurd hp (by show ¬ 1 ≤ 0; omega), rfl⟩
  · rw [e2, hS]; simp
  · rw [e6, hS]; simp
  · rw [e3, hS, List.take_nil, hg]
  · rw [e4, hS, List.take_nil, hg]
  · intro g hg; rw [e8] at hg; cases hg
  · rw [e8]; exact Nat.le_refl _
  · rw [e10, e13]; rfl
  · rw [e12, hS, List.take_nil, hg]; rfl
theorem sent_step {ms : List Msg} {k : Nat} {m : Msg} (hm : ms[k]? = some m) : sentL (ms.take (k + 1)) = sentL (ms.take k) ++ (if m.st = 3 then [m.data] else []) := by
  rw [List.take_add_one, hm]
  show sentL (ms.take k ++ [m]) = _
  rw [sentL_append]
  congr 1
end Go.Proofs.YtkaaoomliepijaaGreat
