/-
  Contracts of rational.Sum and pace.check at rates in whole units whose sum is at most 1.
-/
import Derived.Test.YtbdaehcngmhhcaaPc
import Derived.Test.YtbdaehcngmhhcaaNet
import Derived.Test.YtbdaehcngmhhcaaFillN
namespace Go.Proofs.Ytbdaehcngmhhcaa
open Go.RowKit
set_option linter.unusedVariables false

/-- Rates in whole units of 1/U; k i is the number of units of rate i. -/
structure Rts (rs : List Rq) (k : Nat → Int) : Prop where
  r : ∀ (i : Nat) r, rs[i]? = some r → Rp1 uU r (k i) ∧ 0 ≤ k i ∧ k i ≤ uU
  sum : sI k rs.length ≤ uU
theorem uU_pos : 0 < uU := by decide
theorem uU_le : uU ≤ 536870912 := by decide
theorem Rts.part {rs : List Rq} {k : Nat → Int} (h : Rts rs k) {p : Nat} (hp : p ≤ rs.length) : 0 ≤ sI k p ∧ sI k p ≤ uU := by
  have hn : ∀ j < rs.length, 0 ≤ k j := fun j hj => (h.r j _ (List.getElem?_eq_getElem hj)).2.1
  exact ⟨sI_nonneg fun j hj => hn j (by omega), Int.le_trans (sI_mono hn hp) h.sum⟩
theorem Rp1.rate {r : Rq} {k : Int} (h : Rp1 uU r k) (h0 : 0 ≤ k) (h1 : k ≤ uU) : Rt r := by
  have hU : uU = 1244160 := rfl
  refine ⟨h.sm uU_pos uU_le (by omega), (h.rp.n_nonneg uU_pos).2 h0, ?_⟩
  have h2 := h.rp.2
  have h3 := (h.sm uU_pos uU_le (by omega)).D
  have h4 := h.d1
  rw [h3] at h2
  have h5 : k * r.d ≤ (uU : Int) * r.d := Int.mul_le_mul_of_nonneg_right h1 (by omega)
  rw [← h2, Int.mul_comm (uU : Int)] at h5
  exact Int.le_of_mul_le_mul_right h5 (by rw [hU]; decide)
def SumRel (w : World) (rs : List Rq) (k : Nat → Int) (i : Value) (wr : World) : Prop :=
  ∃ (p : Nat) (s : Rq), p ≤ rs.length ∧ i = .int .i64 p ∧ Hid (Rp1 uU s (sI k p)) ∧ Hid (B2 w wr 29 29 [.int .i64 0, .int .i64 0] [.int .i64 s.n, .int .i64 s.d])
def SumPost (w : World) (rs : List Rq) (k : Nat → Int) (e : Ending) (w' : World) : Prop := ∃ s : Rq, e = .returned (.tuple #[rV s, .int .i64 0]) ∧ Rp1 uU s (sI k rs.length) ∧ Below w.heap.size w w'
set_option maxRecDepth 100000 in
set_option maxHeartbeats 2000000 in
theorem sum_any (w : World) (a : Option Addr) (c : Nat) (rs : List Rq) (k : Nat → Int) (hs : SlC rC 2 w a rs) (h : Rts rs k) (hl : rs.length ≤ 1000) :
    Calls Try.prog 60 #[.slice a rs.length c] w (SumPost w rs k) := by
  have HS := Lib.hid hs
  have H := Lib.hid h
  have M2 := Lib.hid (fun c1 c2 => B2.mk_ w 29 29 c1 c2)
  clear hs h
  generalize hn : rs.length = n at *
  have HN := Lib.hid hn
  clear hn
  go_enter Try.func60, Try.ntmps60
  go_wp2_with fail
  have T0 := Lib.hid (M2.out [.int .i64 0, .int .i64 0] [.int .i64 0, .int .i64 1])
  clear M2
  go_loopw [12] (fun i wr => SumRel w rs k i wr) (fun i _ => n - (intOf i).toNat)
  case atStart => exact ⟨0, ⟨0, 1⟩, Nat.zero_le _, rfl, Rp1.zero uU, T0⟩
  case round =>
    clear T0
    obtain ⟨p, s, hp, rfl, hR, T⟩ := hrel
    obtain ⟨e0, e1, e2, e3⟩ := T.out.N
    have z := T.out.lt
    by_cases hlt : p < n
    · obtain ⟨r, er, okr, rn, rd⟩ := (HS.out.below T.out.u).r (k := p) (by rw [HN.out]; exact hlt)
      obtain ⟨h1, h2, h3⟩ := H.out.r p r er.out
      have h4 := H.out.part (p := p) (by rw [HN.out]; omega)
      have hU : uU = 1244160 := rfl
      have AD := fun w => add_any s r w (hR.out.sm uU_pos uU_le (by omega)) (h1.sm uU_pos uU_le (by omega))
      have hR2 := Lib.hid (hR.out.add uU_pos h1)
      generalize s.add r = s2 at *
      unfold rV at AD
      obtain ⟨sn, sd⟩ := s
      obtain ⟨r1, r2⟩ := r
      obtain ⟨t1, t2⟩ := s2
      dsimp only at *
      replace AD := Lib.hid AD
      clear h1 h2 h3 h4 hR hU er
      go_wp2_with fail
      refine (AD.out _).mono ?_
      rintro e w1 ⟨rfl, hb⟩
      have T1 := Lib.hid ((T.out.alloc_ _).bel hb)
      obtain ⟨e0, e1, e2, e3⟩ := T1.out.N
      have f1 := T1.out.b.free
      have z := T1.out.lt
      clear hb T
      go_wp2_with fail
      go_roundw
      case rel => exact ⟨p + 1, ⟨t1, t2⟩, by rw [HN.out]; omega, by go_num, hR2, B2.alloc_ ⟨(T1.out.a.setO _ (by dsimp only; omega)).setO _ (by dsimp only; omega), (T1.out.b.set 0 _).set 1 _, (T1.out.u.setCell (by dsimp only; omega) _).setCell (by dsimp only; omega) _⟩ _⟩
      case measure => simp [intOf]; omega
    · obtain rfl : n = p := by rw [HN.out] at hp; omega
      have hR2 : Hid (Rp1 uU s (sI k rs.length)) := by rw [HN.out]; exact hR
      have f0 := T.out.a.free
      have UB := T.out.u
      obtain ⟨sn, sd⟩ := s
      dsimp only at *
      go_wp2_with fail
      exact bodyPost_ret (v := .tuple #[.agg #[.int .i64 sn, .int .i64 sd], .int .i64 0]) (by simp [results, Try.results60, go_sem, e0, e1]) rfl ⟨⟨sn, sd⟩, rfl, hR2.out, by (repeat' (first | with_reducible assumption | with_reducible exact Below.refl _ _ | with_reducible refine Below.drewQ ?_ | with_reducible refine Below.drewNQ ?_ _ | with_reducible refine Below.setCell ?_ (by dsimp only; omega) _ | with_reducible refine Below.alloc ?_ (by first | omega | (simp; done) | (simp; omega)) _))⟩
theorem cmp_le {U : Nat} {a b : Rq} {j k : Int} (hU : 0 < U) (ha : Rp U a j) (hb : Rp U b k) (h : j ≤ k) : a.cmp b ≤ 0 := by
  obtain ⟨h1, h2⟩ := Rp.cmp hU ha hb
  unfold Rq.cmp cmpI
  by_cases e : j < k
  · rw [if_pos (h1.2 e)]; decide
  · have e2 : j = k := by omega
    rw [if_neg (fun x => e (h1.1 x)), if_pos (h2.2 e2)]; decide
theorem one_rp (U : Nat) : Rp U ⟨1, 1⟩ U := ⟨.inr ⟨Int.le_refl _, Nat.coprime_one_left _⟩, by show (1 : Int) * U = U * ((1 : Nat) : Int); omega⟩
def ChkRel (w : World) (n : Nat) (i : Value) (wr : World) : Prop := ∃ p : Nat, p ≤ n ∧ i = .int .i64 p ∧ Hid (Below w.heap.size w wr)
set_option maxRecDepth 100000 in
set_option maxHeartbeats 2000000 in
theorem check_any (w : World) (a : Option Addr) (c : Nat) (rs : List Rq) (k : Nat → Int) (tk : Nat) (hs : SlC rC 2 w a rs) (h : Rts rs k) (hl : rs.length ≤ 32) (ht : tk ≤ 1000) :
    Calls Try.prog 46 #[.slice a rs.length c, .int .i64 tk] w fun e w' => e = .returned (.int .i64 0) ∧ Below w.heap.size w w' := by
  have HS := Lib.hid hs
  have H := Lib.hid h
  have SU := fun w' (q : Below w.heap.size w w') => sum_any w' a c rs k (hs.below q) h (by omega)
  clear hs h
  unfold SumPost rV at SU
  generalize hn : rs.length = n at *
  have HN := Lib.hid hn
  clear hn
  have k1 : ¬ (32 : Int) < (n : Int) := by omega
  have k2 : ¬ (tk : Int) < 0 := by omega
  have k3 : ¬ (10000 : Int) < (tk : Int) := by omega
  replace SU := Lib.hid SU
  go_enter Try.func46, Try.ntmps46
  go_wp2_with fail
  go_loopw [14] (fun i wr => ChkRel w n i wr) (fun i _ => n - (intOf i).toNat)
  case atStart => exact ⟨0, Nat.zero_le _, rfl, Below.refl _ _⟩
  case round =>
    obtain ⟨p, hp, rfl, hB⟩ := hrel
    by_cases hlt : p < n
    · obtain ⟨r, er, okr, rn, rd⟩ := (HS.out.below hB.out).r (k := p) (by rw [HN.out]; exact hlt)
      obtain ⟨h1, h2, h3⟩ := H.out.r p r er.out
      have PV := fun w => pvalid_any r w (h1.rate h2 h3)
      unfold rV at PV
      obtain ⟨r1, r2⟩ := r
      dsimp only at *
      replace PV := Lib.hid PV
      clear h1 h2 h3 er
      go_wp2_with fail
      refine (PV.out _).mono ?_
      rintro e w1 ⟨rfl, hb⟩
      have hz := hB.out.size
      have hB2 := Lib.hid (below_then (hB.out.alloc (by omega) (.cells #[.int .i64 r1, .int .i64 r2] 29)) hb (by simp; omega))
      clear hb hz
      go_wp2_with fail
      go_roundw
      case rel => exact ⟨p + 1, by omega, by go_num, hB2⟩
      case measure => simp [intOf]; omega
    · obtain rfl : n = p := by omega
      go_wp2_with fail
      refine (SU.out _ hB.out).mono ?_
      rintro e w1 ⟨s, rfl, hR, hb⟩
      have hU : uU = 1244160 := rfl
      have hsum := H.out.part (p := rs.length) (Nat.le_refl _)
      rw [HN.out] at hsum
      have CM := fun w => cmp_any s ⟨1, 1⟩ w (hR.sm uU_pos uU_le (by omega)).ok (Rp.ok uU_pos (by rw [hU]; decide) (by rw [hU]; decide) (one_rp uU))
      have hle := cmp_le uU_pos hR.rp (one_rp uU) hsum.2
      unfold rV at CM
      generalize s.cmp ⟨1, 1⟩ = cm at *
      obtain ⟨s1, s2⟩ := s
      dsimp only at *
      have hle' : ¬ 0 < cm := by omega
      have hz := hB.out.size
      have hB2 := Lib.hid (below_then hB.out hb hz)
      replace CM := Lib.hid CM
      clear hR hsum hb hU hz
      go_wp2_with fail
      refine (CM.out _).mono ?_
      rintro e w2 ⟨rfl, hb⟩
      have hz := hB2.out.size
      have hB3 := Lib.hid (below_then (hB2.out.alloc (by omega) (.cells #[.int .i64 s1, .int .i64 s2] 29)) hb (by simp; omega))
      clear hb hz
      go_wp2_with fail
      go_ret
      exact ⟨rfl, hB3.out⟩
end Go.Proofs.Ytbdaehcngmhhcaa
