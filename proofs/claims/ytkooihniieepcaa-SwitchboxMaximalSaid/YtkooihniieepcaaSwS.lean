/-
  switchbox: a Step with a route of one output; small facts on drops and sends. Plain Lean.
-/
import Derived.Test.YtkooihniieepcaaSwK
import Derived.Test.YtkooihniieepcaaSwL
namespace Go.Proofs.Ytkooihniieepcaa
open Go.RowKit
set_option linter.unusedVariables false
theorem dCls_zero {d : Nat → Nat → Nat} {p : Nat} {s : SS} : ∀ n, (∀ c < n, d p c = 0) → dCls d p n s = s
  | 0, _ => rfl
  | n + 1, h => by rw [dCls_succ, h n (Nat.lt_succ_self n), dCls_zero n fun c hc => h c (by omega)]; rfl
theorem dPrt_zero {d : Nat → Nat → Nat} {K : Nat} {s : SS} : ∀ n, (∀ p < n, ∀ c < K, d p c = 0) → dPrt d K n s = s
  | 0, _ => rfl
  | n + 1, h => by rw [dPrt_succ, dPrt_zero n fun p hp => h p (by omega), dCls_zero K (h n (Nat.lt_succ_self n))]
theorem sAll_none {K : Nat} {o : Nat → Nat → Int} {m : Nat → Int} {s : SS} : ∀ n, (∀ i < n, m i < 0) → sAll K o m n s = s
  | 0, _ => rfl
  | n + 1, h => by rw [sAll_succ, sAll_none n fun i hi => h i (by omega), sIn_neg (h n (Nat.lt_succ_self n))]
/-- Only input i is matched. -/
theorem sAll_one {K : Nat} {o : Nat → Nat → Int} {m : Nat → Int} {s : SS} {i : Nat} : ∀ n, i < n → (∀ j < n, j ≠ i → m j < 0) → sAll K o m n s = sIn K o (m i) i s
  | 0, h, _ => absurd h (Nat.not_lt_zero _)
  | n + 1, h, hn => by
    rw [sAll_succ]
    by_cases e : i = n
    · subst e
      rw [sAll_none i fun j hj => hn j (by omega) (by omega)]
    · rw [sAll_one n (by omega) fun j hj hne => hn j (by omega) hne, sIn_neg (hn n (Nat.lt_succ_self n) (fun x => e x.symm))]
/-- All frames have the output t. -/
theorem drN_const {P : Nat} {t : Nat} (ht : t < P) (p : Nat) (l : List Fr) : drN P (fun _ _ => (t : Int)) p l = 0 := by
  unfold drN
  cases l with
  | nil => rfl
  | cons f l =>
    have : noRt P (fun _ _ => (t : Int)) p f = false := by unfold noRt; simp; omega
    rw [List.takeWhile_cons, this]
    rfl
theorem ouN_const {P : Nat} {t : Nat} (ht : t < P) (p : Nat) (l : List Fr) : ouN P (fun _ _ => (t : Int)) p l = if l = [] then -1 else (t : Int) := by
  unfold ouN
  cases l with
  | nil => rfl
  | cons f l =>
    have : noRt P (fun _ _ => (t : Int)) p f = false := by unfold noRt; simp; omega
    rw [List.dropWhile_cons, this]
    rfl
theorem rdy_const {P t : Nat} {M M' : Md} (ht : t < P) (i k c : Nat) : rdyB M' (fun p c => ouN P (fun _ _ => (t : Int)) p (M.q p c)) i k c = (decide (M.q i c ≠ []) && decide (k = t) && decide (0 < (M'.tk k c).b - (M'.tk k c).a)) := by
  have e0 : decide (ouN P (fun _ _ => (t : Int)) i (M.q i c) = (k : Int)) = (decide (M.q i c ≠ []) && decide (k = t)) := by
    rw [ouN_const ht]
    by_cases h : M.q i c = []
    · rw [if_pos h]
      simp only [h, ne_eq, not_true_eq_false, decide_false, Bool.false_and, decide_eq_false_iff_not]
      omega
    · rw [if_neg h]
      simp only [h, ne_eq, not_false_eq_true, decide_true, Bool.true_and, decide_eq_decide]
      omega
  show (decide (ouN P (fun _ _ => (t : Int)) i (M.q i c) = (k : Int)) && decide (0 < (M'.tk k c).b - (M'.tk k c).a)) = _
  rw [e0]
/-- No input is ready: nothing happens. -/
theorem step_idle {P K t : Nat} {M : Md} (ht : t < P) {b : Bar.St} (hno : ∀ i < P, ∀ c < K, M.q i c = [] ∨ (M.tk t c).b - (M.tk t c).a ≤ 0) {s1 s : SS} (h1 : s1 = dPrt (fun p c => drN P (fun _ _ => (t : Int)) p (M.q p c)) K P ⟨M, [], []⟩)
    (hm : Matched P (rqFull K s1.M fun p c => ouN P (fun _ _ => (t : Int)) p (M.q p c)) b)
    (hs : s = sAll K (fun p c => ouN P (fun _ _ => (t : Int)) p (M.q p c)) b.m P ⟨{ s1.M with g := b.g, a := b.a }, s1.mv, s1.fr⟩) : s = ⟨{ M with g := b.g, a := b.a }, [], []⟩ := by
  rw [dPrt_zero P fun p _ c _ => drN_const ht p _] at h1
  subst h1
  rw [hs]
  refine sAll_none P fun i hi => ?_
  rcases hm.1.m i hi with h | ⟨k, hk, _, hr⟩
  · omega
  · exfalso
    unfold rqFull at hr
    rw [List.any_eq_true] at hr
    obtain ⟨c, hc, hr⟩ := hr
    have hc := List.mem_range.1 hc
    rw [rdy_const ht] at hr
    simp only [Bool.and_eq_true, decide_eq_true_eq] at hr
    obtain ⟨⟨h2, h3⟩, h4⟩ := hr
    rw [h3] at h4
    rcases hno i hi c hc with h | h
    · exact h2 h
    · omega
/-- Input i alone has frames, and class c is the first from its pointer on that is ready. -/
theorem step_one {P K t i c : Nat} {M : Md} {f : Fr} {r : List Fr} (ht : t < P) (hi : i < P) (hc : c < K) {b : Bar.St} (hemp : ∀ j < P, j ≠ i → ∀ c < K, M.q j c = []) (hq : M.q i c = f :: r) (hcr : 0 < (M.tk t c).b - (M.tk t c).a)
    (hcls : clsOf K M (fun p c => ouN P (fun _ _ => (t : Int)) p (M.q p c)) i t = some c) {s1 s : SS} (h1 : s1 = dPrt (fun p c => drN P (fun _ _ => (t : Int)) p (M.q p c)) K P ⟨M, [], []⟩)
    (hm : Matched P (rqFull K s1.M fun p c => ouN P (fun _ _ => (t : Int)) p (M.q p c)) b)
    (hs : s = sAll K (fun p c => ouN P (fun _ _ => (t : Int)) p (M.q p c)) b.m P ⟨{ s1.M with g := b.g, a := b.a }, s1.mv, s1.fr⟩) : s = sOne K i t c ⟨{ M with g := b.g, a := b.a }, [], []⟩ := by
  rw [dPrt_zero P fun p _ c _ => drN_const ht p _] at h1
  subst h1
  have hreq : ∀ j < P, ∀ k < P, rqFull K M (fun p c => ouN P (fun _ _ => (t : Int)) p (M.q p c)) j k = true → j = i ∧ k = t := by
    intro j hj k hk hr
    unfold rqFull at hr
    rw [List.any_eq_true] at hr
    obtain ⟨c', hc', hr⟩ := hr
    have hc' := List.mem_range.1 hc'
    rw [rdy_const ht] at hr
    simp only [Bool.and_eq_true, decide_eq_true_eq] at hr
    obtain ⟨⟨h2, h3⟩, h4⟩ := hr
    refine ⟨Classical.byContradiction fun hne => h2 (hemp j hj hne c' hc'), h3⟩
  have hyes : rqFull K M (fun p c => ouN P (fun _ _ => (t : Int)) p (M.q p c)) i t = true := by
    unfold rqFull
    rw [List.any_eq_true]
    refine ⟨c, List.mem_range.2 hc, ?_⟩
    rw [rdy_const ht]
    simp [hq]
    omega
  have hmi : b.m i = (t : Int) := by
    have hcase : 0 ≤ b.m i := by
      rcases hm.2 i hi t ht hyes with h | h
      · exact h
      · obtain ⟨j, hj, e⟩ := (hm.1.t t ht).1 h
        rcases hm.1.m j hj with h2 | ⟨k, hk, h2, hr⟩
        · omega
        · have := hreq j hj k hk hr
          rw [this.1] at e
          omega
    rcases hm.1.m i hi with h2 | ⟨k, hk, h2, hr⟩
    · omega
    · rw [h2, (hreq i hi k hk hr).2]
  have hmo : ∀ j < P, j ≠ i → b.m j < 0 := by
    intro j hj hne
    rcases hm.1.m j hj with h2 | ⟨k, hk, h2, hr⟩
    · omega
    · exact absurd (hreq j hj k hk hr).1 hne
  rw [hs, sAll_one P hi hmo, hmi]
  have ek : ((t : Nat) : Int).toNat = t := Int.toNat_natCast t
  rw [sIn_some (c := c) (by omega) (by rw [ek]; exact hcls), ek]
end Go.Proofs.Ytkooihniieepcaa
