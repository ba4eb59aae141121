/-
  Contracts of rational.Sub, Div, and of awake; numbers in whole units that have a denominator.
-/
import Derived.Test.YtbdaehcngmhhcaaMul
namespace Go.Proofs.Ytbdaehcngmhhcaa
open Go.RowKit
set_option linter.unusedVariables false

theorem Rq.add_d {a b : Rq} (ha : a.V) (hb : b.V) : 1 ≤ (a.add b).d := by
  rcases Rq.add_V ha hb with h | h
  · exfalso
    unfold Rq.add at h
    split at h
    · simp at h
    · obtain ⟨-, -, -, h4, -, -⟩ := sum_low ha.pos hb.pos ha.cop hb.cop (a.sm b) _ rfl rfl
      have := h.2
      dsimp only at this
      omega
  · exact h.1
theorem Rq.mul_d {a b : Rq} (ha : a.V) (hb : b.V) : 1 ≤ (a.mul b).d := by
  rcases Rq.mul_V ha hb with h | h
  · exfalso
    unfold Rq.mul at h
    split at h
    · simp at h
    · rename_i hz
      obtain ⟨h1, -, -, -⟩ := prod_low ha.pos hb.pos (fun e => hz (.inl e)) (fun e => hz (.inr e)) ha.cop hb.cop
      have := h.2
      dsimp only at this
      omega
  · exact h.1
/-- r is k/U, and has a denominator. -/
structure Rp1 (U : Nat) (r : Rq) (k : Int) : Prop where
  rp : Rp U r k
  d1 : 1 ≤ r.d
section
variable {U : Nat} {a b : Rq} {j k : Int}
theorem Rp1.sm (h : Rp1 U a j) (hU : 0 < U) (hU2 : U ≤ 536870912) (hj : j.natAbs ≤ 536870912) : Sm a := by
  have h1 := h.rp.le hU
  have h2 := h.rp.d_le hU
  exact ⟨h.rp.1, h.d1, by omega, by omega, by omega⟩
theorem Rp1.add (hU : 0 < U) (ha : Rp1 U a j) (hb : Rp1 U b k) : Rp1 U (a.add b) (j + k) := ⟨ha.rp.add hU hb.rp, Rq.add_d ha.rp.1 hb.rp.1⟩
theorem Rp1.neg (ha : Rp1 U a j) : Rp1 U ⟨-a.n, a.d⟩ (-j) := ⟨ha.rp.neg, ha.d1⟩
theorem Rp1.sub (hU : 0 < U) (ha : Rp1 U a j) (hb : Rp1 U b k) : Rp1 U (a.add ⟨-b.n, b.d⟩) (j - k) := by
  have := ha.add hU hb.neg
  rwa [← Int.sub_eq_add_neg] at this
theorem Rp1.div (hU : 0 < U) (ha : Rp1 U a j) {o : Nat} (ho : 0 < o) {q : Int} (hq : j = q * o) : Rp1 U (a.mul ⟨1, o⟩) q :=
  ⟨ha.rp.div hU ho hq, Rq.mul_d ha.rp.1 (.inr ⟨by show (1 : Int) ≤ (o : Int); omega, Nat.coprime_one_left _⟩)⟩
theorem Rp1.zero (U : Nat) : Rp1 U ⟨0, 1⟩ 0 := ⟨Rp.zero U, Int.le_refl _⟩
end
theorem Sm.neg {b : Rq} (h : Sm b) : Sm ⟨-b.n, b.d⟩ := by
  refine ⟨?_, h.d1, h.d2, by have := h.n2; dsimp only; omega, by have := h.n1; dsimp only; omega⟩
  rcases h.v with x | x
  · have := h.d1; omega
  · exact .inr ⟨x.1, by show Nat.Coprime (-b.n).natAbs _; rw [Int.natAbs_neg]; exact x.2⟩
set_option maxRecDepth 100000 in
set_option maxHeartbeats 2000000 in
theorem sub_any (a b : Rq) (w : World) (ha : Sm a) (hb : Sm b) :
    Calls Try.prog 43 #[rV a, rV b] w fun e w' => e = .returned (.tuple #[rV (a.add ⟨-b.n, b.d⟩), .int .i64 0]) ∧ Below w.heap.size w w' := by
  have V1 := fun w => valid_any a.n a.d w (by have := ha.n1; have := ha.n2; omega) (by have := ha.d1; have := ha.d2; omega)
  have V2 := fun w => valid_any b.n b.d w (by have := hb.n1; have := hb.n2; omega) (by have := hb.d1; have := hb.d2; omega)
  have ha' : Rq.ok ⟨a.n, a.d⟩ = true := ha.ok
  have hb' : Rq.ok ⟨b.n, b.d⟩ = true := hb.ok
  rw [ha'] at V1
  rw [hb'] at V2
  clear ha' hb'
  have AD := fun w => add_any a ⟨-b.n, b.d⟩ w ha hb.neg
  have b3 := hb.n1; have b4 := hb.n2
  generalize a.add ⟨-b.n, b.d⟩ = R at *
  have M3 := Lib.hid (fun c1 c2 c3 => B3.mk_ w 29 29 29 c1 c2 c3)
  clear ha hb
  unfold rV at AD ⊢
  obtain ⟨an, ad⟩ := a
  obtain ⟨bn, bd⟩ := b
  obtain ⟨rn, rd⟩ := R
  dsimp only at *
  replace V1 := Lib.hid V1; replace V2 := Lib.hid V2; replace AD := Lib.hid AD
  go_enter Try.func43, Try.ntmps43
  go_wp2_with fail
  refine (V1.out _).mono ?_
  rintro e w1 ⟨rfl, hb⟩
  have T := Lib.hid ((M3.out _ _ _).bel hb)
  clear hb M3
  obtain ⟨c0, c1, d0, d1, -⟩ := T.out.S
  go_wp2_with fail
  refine (V2.out _).mono ?_
  rintro e w2 ⟨rfl, hb⟩
  have T2 := Lib.hid (T.out.bel hb)
  clear hb T c0 c1 d0 d1
  obtain ⟨c0, c1, d0, d1, -⟩ := T2.out.S
  go_wp2_with fail
  refine (AD.out _).mono ?_
  rintro e w3 ⟨rfl, hb⟩
  have T3 := Lib.hid (T2.out.bel hb)
  clear hb T2 c0 c1 d0 d1
  obtain ⟨c0, c1, d0, d1, o0, o1⟩ := T3.out.S
  obtain ⟨f0, f1, f2⟩ := T3.out.Fz
  have UB := T3.out.u
  go_wp2_with fail
  exact bodyPost_ret (v := .tuple #[.agg #[.int .i64 rn, .int .i64 rd], .int .i64 0]) (by simp [results, Try.results43, go_sem, o0, o1]) rfl ⟨rfl, by (repeat' (first | with_reducible assumption | with_reducible exact Below.refl _ _ | with_reducible refine Below.drewQ ?_ | with_reducible refine Below.drewNQ ?_ _ | with_reducible refine Below.setCell ?_ (by dsimp only; omega) _ | with_reducible refine Below.alloc ?_ (by first | omega | (simp; done) | (simp; omega)) _))⟩
set_option maxRecDepth 100000 in
set_option maxHeartbeats 2000000 in
theorem div_any (a b : Rq) (w : World) (ha : Sm0 a) (hb : Sm0 b) (hn : 0 < b.n) (hd : Sm0 ⟨b.d, b.n⟩) :
    Calls Try.prog 62 #[rV a, rV b] w fun e w' => e = .returned (.tuple #[rV (a.mul ⟨b.d, b.n⟩), .int .i64 0]) ∧ Below w.heap.size w w' := by
  have V1 := fun w => valid_any a.n a.d w (by have := ha.n1; have := ha.n2; omega) (by have := ha.d0; have := ha.d2; omega)
  have V2 := fun w => valid_any b.n b.d w (by have := hb.n1; have := hb.n2; omega) (by have := hb.d0; have := hb.d2; omega)
  have ha' : Rq.ok ⟨a.n, a.d⟩ = true := ha.ok
  have hb' : Rq.ok ⟨b.n, b.d⟩ = true := hb.ok
  rw [ha'] at V1
  rw [hb'] at V2
  clear ha' hb'
  have AD := fun w => mul_any a ⟨b.d, b.n⟩ w ha hd
  generalize a.mul ⟨b.d, b.n⟩ = R at *
  have M3 := Lib.hid (fun c1 c2 c3 => B3.mk_ w 29 29 29 c1 c2 c3)
  clear ha hb hd
  have k0 : (b.n == 0) = false := by simp; omega
  have k1 : ¬ b.n < 0 := by omega
  have k2 : 0 ≤ b.n := by omega
  unfold rV at AD ⊢
  obtain ⟨an, ad⟩ := a
  obtain ⟨bn, bd⟩ := b
  obtain ⟨rn, rd⟩ := R
  dsimp only at *
  replace V1 := Lib.hid V1; replace V2 := Lib.hid V2; replace AD := Lib.hid AD
  go_enter Try.func62, Try.ntmps62
  go_wp2_with fail
  refine (V1.out _).mono ?_
  rintro e w1 ⟨rfl, hb⟩
  have T := Lib.hid ((M3.out _ _ _).bel hb)
  clear hb M3
  obtain ⟨c0, c1, d0, d1, -⟩ := T.out.S
  go_wp2_with fail
  refine (V2.out _).mono ?_
  rintro e w2 ⟨rfl, hb⟩
  have T2 := Lib.hid (T.out.bel hb)
  clear hb T c0 c1 d0 d1
  obtain ⟨c0, c1, d0, d1, -⟩ := T2.out.S
  go_wp2_with fail
  refine (AD.out _).mono ?_
  rintro e w3 ⟨rfl, hb⟩
  have T3 := Lib.hid (T2.out.bel hb)
  clear hb T2 c0 c1 d0 d1
  obtain ⟨c0, c1, d0, d1, o0, o1⟩ := T3.out.S
  obtain ⟨f0, f1, f2⟩ := T3.out.Fz
  have UB := T3.out.u
  go_wp2_with fail
  exact bodyPost_ret (v := .tuple #[.agg #[.int .i64 rn, .int .i64 rd], .int .i64 0]) (by simp [results, Try.results62, go_sem, o0, o1]) rfl ⟨rfl, by (repeat' (first | with_reducible assumption | with_reducible exact Below.refl _ _ | with_reducible refine Below.drewQ ?_ | with_reducible refine Below.drewNQ ?_ _ | with_reducible refine Below.setCell ?_ (by dsimp only; omega) _ | with_reducible refine Below.alloc ?_ (by first | omega | (simp; done) | (simp; omega)) _))⟩
theorem half_third : Rq.add ⟨1, 2⟩ ⟨1, 3⟩ = ⟨5, 6⟩ := by
  have h : (Rq.add ⟨1, 2⟩ ⟨1, 3⟩).n = 5 ∧ (Rq.add ⟨1, 2⟩ ⟨1, 3⟩).d = 6 := by decide +kernel
  generalize Rq.add ⟨1, 2⟩ ⟨1, 3⟩ = r at *
  obtain ⟨n, d⟩ := r
  obtain ⟨rfl, rfl⟩ := h
  rfl
theorem sm_lit {n d : Nat} (h1 : n = 1) (h2 : 1 ≤ d) (h3 : d ≤ 1000) : Sm ⟨(n : Int), (d : Int)⟩ :=
  ⟨.inr ⟨by show (1 : Int) ≤ (d : Int); omega, by subst h1; exact Nat.coprime_one_left _⟩, by dsimp only; omega, by dsimp only; omega, by dsimp only; omega, by dsimp only; omega⟩
set_option maxRecDepth 100000 in
set_option maxHeartbeats 2000000 in
theorem awake_any (w : World) : Calls Try.prog 4 #[] w fun e w' => e = .returned (.bool true) ∧ Below w.heap.size w w' := by
  have AD := fun w => add_any ⟨1, 2⟩ ⟨1, 3⟩ w (sm_lit (n := 1) (d := 2) rfl (by omega) (by omega)) (sm_lit (n := 1) (d := 3) rfl (by omega) (by omega))
  rw [half_third] at AD
  unfold rV at AD
  replace AD := Lib.hid AD
  go_enter Try.func4, Try.ntmps4
  go_wp2_with fail
  refine (AD.out _).mono ?_
  rintro e w3 ⟨rfl, hb⟩
  have hz := hb.size
  go_wp2_with fail
  go_ret
  exact ⟨rfl, by (repeat' (first | with_reducible assumption | with_reducible exact Below.refl _ _ | with_reducible refine Below.drewQ ?_ | with_reducible refine Below.drewNQ ?_ _ | with_reducible refine Below.setCell ?_ (by dsimp only; omega) _ | with_reducible refine Below.alloc ?_ (by first | omega | (simp; done) | (simp; omega)) _))⟩
end Go.Proofs.Ytbdaehcngmhhcaa
