/-
  Filling a net level by level, plainly: nothing overflows, and whoever is not bounded has a full link.
-/
import Derived.Test.YtbdaehcngmhhcaaLib
namespace Go.Proofs.Ytbdaehcngmhhcaa
set_option linter.unusedVariables false

/-- Sum of the first n values. -/
def sI (f : Nat → Int) : Nat → Int
  | 0 => 0
  | n + 1 => sI f n + f n
theorem sI_congr {f g : Nat → Int} : ∀ {n : Nat}, (∀ i < n, f i = g i) → sI f n = sI g n
  | 0, _ => rfl
  | n + 1, h => by rw [sI, sI, sI_congr (fun i hi => h i (by omega)), h n (by omega)]
theorem sI_add (f g : Nat → Int) : ∀ n, sI (fun i => f i + g i) n = sI f n + sI g n
  | 0 => rfl
  | n + 1 => by simp only [sI, sI_add f g n]; omega
theorem sI_mul (c : Int) (f : Nat → Int) : ∀ n, sI (fun i => c * f i) n = c * sI f n
  | 0 => by simp [sI]
  | n + 1 => by simp only [sI, sI_mul c f n, Int.mul_add]
theorem sI_nonneg {f : Nat → Int} : ∀ {n : Nat}, (∀ i < n, 0 ≤ f i) → 0 ≤ sI f n
  | 0, _ => Int.le_refl _
  | n + 1, h => by have := sI_nonneg (f := f) (n := n) fun i hi => h i (by omega); have := h n (by omega); simp only [sI]; omega
theorem sI_zero {f : Nat → Int} {n : Nat} (h : ∀ i < n, f i = 0) : sI f n = 0 := by
  rw [sI_congr h]
  induction n with
  | zero => rfl
  | succ n ih => simp only [sI]; rw [ih fun i hi => h i (by omega)]; rfl
theorem sI_le {f g : Nat → Int} : ∀ {n : Nat}, (∀ i < n, f i ≤ g i) → sI f n ≤ sI g n
  | 0, _ => Int.le_refl _
  | n + 1, h => by have := sI_le (f := f) (g := g) (n := n) fun i hi => h i (by omega); have := h n (by omega); simp only [sI]; omega
theorem sI_ge {f : Nat → Int} {n i : Nat} (h : ∀ j < n, 0 ≤ f j) (hi : i < n) : f i ≤ sI f n := by
  induction n with
  | zero => omega
  | succ n ih =>
    simp only [sI]
    by_cases e : i = n
    · subst e
      have := sI_nonneg (f := f) (n := i) fun j hj => h j (by omega)
      omega
    · have := ih (fun j hj => h j (by omega)) (by omega)
      have := h n (by omega)
      omega
theorem sI_dvd {f : Nat → Int} {d : Int} : ∀ {n : Nat}, (∀ i < n, d ∣ f i) → d ∣ sI f n
  | 0, _ => Int.dvd_zero _
  | n + 1, h => Int.dvd_add (sI_dvd fun i hi => h i (by omega)) (h n (by omega))
theorem sI_pos {f : Nat → Int} {n : Nat} (h : ∀ j < n, 0 ≤ f j) (hp : 0 < sI f n) : ∃ i < n, 0 < f i := by
  induction n with
  | zero => simp [sI] at hp
  | succ n ih =>
    by_cases e : 0 < f n
    · exact ⟨n, by omega, e⟩
    · have := h n (by omega)
      obtain ⟨i, hi, h'⟩ := ih (fun j hj => h j (by omega)) (by simp only [sI] at hp; omega)
      exact ⟨i, by omega, h'⟩
/-- A net in whole units: capacities, which flow uses which link, the bounded flows' demands. -/
structure Nt where
  L : Nat
  m : Nat
  C : Nat → Int
  on : Nat → Nat → Bool
  bd : Nat → Bool
  dm : Nat → Int
/-- What the frozen flows take of link l; how many open flows use it. -/
def ldF (N : Nt) (fz : Nat → Bool) (r : Nat → Int) (l : Nat) : Int := sI (fun i => if fz i && N.on l i then r i else 0) N.m
def opF (N : Nt) (fz : Nat → Bool) (l : Nat) : Int := sI (fun i => if !fz i && N.on l i then 1 else 0) N.m
def nOpen (N : Nt) (fz : Nat → Bool) : Int := sI (fun i => if fz i then 0 else 1) N.m
/-- The state of a filling between two levels; V divides all that is there. -/
structure Fill (N : Nt) (V Umax : Int) (fz : Nat → Bool) (r : Nat → Int) : Prop where
  cap : ∀ l < N.L, ldF N fz r l ≤ N.C l
  rt : ∀ i < N.m, fz i = true → 0 ≤ r i ∧ r i ≤ Umax ∧ V ∣ r i
  full : ∀ i < N.m, fz i = true → N.bd i = false → ∃ l < N.L, N.on l i = true ∧ ldF N fz r l = N.C l ∧ opF N fz l = 0
/-- A level: the least value, whom it freezes. -/
structure Lev (N : Nt) (fz : Nat → Bool) (r : Nat → Int) (lam : Int) (S : Nat → Bool) : Prop where
  lnk : ∀ l < N.L, 0 < opF N fz l → lam * opF N fz l ≤ N.C l - ldF N fz r l
  dem : ∀ i < N.m, fz i = false → N.bd i = true → lam ≤ N.dm i
  mem : ∀ i < N.m, S i = true ↔ fz i = false ∧ ((N.bd i = true ∧ N.dm i = lam) ∨ ∃ l < N.L, N.on l i = true ∧ lam * opF N fz l = N.C l - ldF N fz r l)
def fzS (fz S : Nat → Bool) : Nat → Bool := fun i => fz i || S i
def rS (S : Nat → Bool) (lam : Int) (r : Nat → Int) : Nat → Int := fun i => if S i then lam else r i
def onS (N : Nt) (S : Nat → Bool) (l : Nat) : Int := sI (fun i => if S i && N.on l i then 1 else 0) N.m
section
variable {N : Nt} {V U : Int} {fz S : Nat → Bool} {r : Nat → Int} {lam : Int}
theorem op_nonneg (fz : Nat → Bool) (l : Nat) : 0 ≤ opF N fz l := sI_nonneg fun i _ => by split <;> omega
theorem op_pos {l i : Nat} (hi : i < N.m) (hf : fz i = false) (ho : N.on l i = true) : 0 < opF N fz l := by
  have h := sI_ge (f := fun i => if !fz i && N.on l i then (1 : Int) else 0) (n := N.m) (i := i) (fun j _ => by split <;> omega) hi
  simp only [hf, ho, Bool.not_false, Bool.and_self, if_true] at h
  unfold opF; omega
theorem Lev.sub (h : Lev N fz r lam S) {i : Nat} (hi : i < N.m) (hs : S i = true) : fz i = false := ((h.mem i hi).1 hs).1
theorem ld_step (h : Lev N fz r lam S) (l : Nat) : ldF N (fzS fz S) (rS S lam r) l = ldF N fz r l + lam * onS N S l := by
  unfold ldF onS
  rw [← sI_mul, ← sI_add]
  refine sI_congr fun i hi => ?_
  have h1 := h.sub hi
  unfold fzS rS
  cases hs : S i <;> cases hf : fz i <;> cases ho : N.on l i <;> simp_all
theorem op_step (h : Lev N fz r lam S) (l : Nat) : opF N (fzS fz S) l + onS N S l = opF N fz l := by
  unfold opF onS
  rw [← sI_add]
  refine sI_congr fun i hi => ?_
  have h1 := h.sub hi
  unfold fzS
  cases hs : S i <;> cases hf : fz i <;> cases ho : N.on l i <;> simp_all
theorem onS_nonneg (l : Nat) : 0 ≤ onS N S l := sI_nonneg fun i _ => by split <;> omega
theorem onS_zero (h : Lev N fz r lam S) {l : Nat} (ho : opF N fz l = 0) : onS N S l = 0 := by
  have := op_step h l
  have := op_nonneg (N := N) (fzS fz S) l
  have := onS_nonneg (N := N) (S := S) l
  omega
/-- All open flows of a link that is just filled are frozen. -/
theorem op_full (h : Lev N fz r lam S) {l : Nat} (hl : l < N.L) (he : lam * opF N fz l = N.C l - ldF N fz r l) : opF N (fzS fz S) l = 0 := by
  refine sI_zero fun i hi => ?_
  unfold fzS
  cases hf : fz i with
  | true => simp
  | false =>
    cases ho : N.on l i with
    | false => simp
    | true =>
      have : S i = true := (h.mem i hi).2 ⟨hf, .inr ⟨l, hl, ho, he⟩⟩
      simp [this]
theorem Fill.step {V' : Int} (hF : Fill N V U fz r) (h : Lev N fz r lam S) (h0 : 0 ≤ lam) (hU : lam ≤ U) (hd : V' ∣ lam) (hV : V' ∣ V) : Fill N V' U (fzS fz S) (rS S lam r) := by
  refine ⟨fun l hl => ?_, fun i hi hf => ?_, fun i hi hf hb => ?_⟩
  · rw [ld_step h]
    by_cases ho : 0 < opF N fz l
    · have h1 := h.lnk l hl ho
      have h2 := op_step h l
      have h3 := op_nonneg (N := N) (fzS fz S) l
      have h4 : lam * opF N fz l = lam * opF N (fzS fz S) l + lam * onS N S l := by rw [← h2, Int.mul_add]
      have h5 : 0 ≤ lam * opF N (fzS fz S) l := Int.mul_nonneg h0 h3
      omega
    · have h1 : opF N fz l = 0 := by have := op_nonneg (N := N) fz l; omega
      rw [onS_zero h h1]
      have := hF.cap l hl
      omega
  · unfold rS
    cases hs : S i with
    | true => exact ⟨by simpa using h0, by simpa using hU, by simpa using hd⟩
    | false =>
      have h1 : fz i = true := by unfold fzS at hf; rw [hs, Bool.or_false] at hf; exact hf
      obtain ⟨a, b, c⟩ := hF.rt i hi h1
      exact ⟨by simpa using a, by simpa using b, by simpa using Int.dvd_trans hV c⟩
  · cases hs : S i with
    | true =>
      rcases ((h.mem i hi).1 hs).2 with ⟨h1, _⟩ | ⟨l, hl, ho, he⟩
      · rw [hb] at h1; cases h1
      · have h2 := op_full h hl he
        have h3 := op_step h l
        refine ⟨l, hl, ho, ?_, h2⟩
        rw [ld_step h, show onS N S l = opF N fz l by omega, he]
        omega
    | false =>
      have h1 : fz i = true := by unfold fzS at hf; rw [hs, Bool.or_false] at hf; exact hf
      obtain ⟨l, hl, ho, he, h2⟩ := hF.full i hi h1 hb
      have h3 := onS_zero h h2
      have h4 := op_step h l
      refine ⟨l, hl, ho, ?_, by omega⟩
      rw [ld_step h, h3, he]; omega
theorem nOpen_step (h : Lev N fz r lam S) {i : Nat} (hi : i < N.m) (hs : S i = true) : nOpen N (fzS fz S) + 1 ≤ nOpen N fz := by
  have e : nOpen N fz = nOpen N (fzS fz S) + sI (fun i => if S i then 1 else 0) N.m := by
    unfold nOpen
    rw [← sI_add]
    refine sI_congr fun i hi => ?_
    have h1 := h.sub hi
    unfold fzS
    cases hs : S i <;> cases hf : fz i <;> simp_all
  have h2 := sI_ge (f := fun i => if S i then (1 : Int) else 0) (n := N.m) (i := i) (fun j _ => by split <;> omega) hi
  simp only [hs, if_true] at h2
  omega
end
/-- Behind j levels all rates are whole multiples of this many units of 1/1244160. -/
def uV : Nat → Int
  | 0 => 8640 | 1 => 144 | 2 => 12 | 3 => 2 | _ => 1
def uU : Nat := 1244160
theorem uV_dvd : ∀ j, uV (j + 1) ∣ uV j
  | 0 => ⟨60, rfl⟩ | 1 => ⟨12, rfl⟩ | 2 => ⟨6, rfl⟩ | 3 => ⟨2, rfl⟩ | _ + 4 => ⟨1, rfl⟩
theorem uV_dvd0 : ∀ j, uV j ∣ uV 0
  | 0 => Int.dvd_refl _
  | j + 1 => Int.dvd_trans (uV_dvd j) (uV_dvd0 j)
/-- The division at a level comes out whole. -/
theorem uV_div {j o : Nat} (ho : 1 ≤ o) (hj : o + j ≤ 5) {x : Int} (h : uV j ∣ x) : ∃ q, x = q * o ∧ uV (j + 1) ∣ q := by
  obtain ⟨y, rfl⟩ := h
  have hj4 : j ≤ 4 := by omega
  match j, hj4 with
  | 0, _ =>
    have : o = 1 ∨ o = 2 ∨ o = 3 ∨ o = 4 ∨ o = 5 := by omega
    rcases this with rfl | rfl | rfl | rfl | rfl
    · exact ⟨8640 * y, by simp only [uV]; omega, ⟨60 * y, by simp only [uV]; omega⟩⟩
    · exact ⟨4320 * y, by simp only [uV]; omega, ⟨30 * y, by simp only [uV]; omega⟩⟩
    · exact ⟨2880 * y, by simp only [uV]; omega, ⟨20 * y, by simp only [uV]; omega⟩⟩
    · exact ⟨2160 * y, by simp only [uV]; omega, ⟨15 * y, by simp only [uV]; omega⟩⟩
    · exact ⟨1728 * y, by simp only [uV]; omega, ⟨12 * y, by simp only [uV]; omega⟩⟩
  | 1, _ =>
    have : o = 1 ∨ o = 2 ∨ o = 3 ∨ o = 4 := by omega
    rcases this with rfl | rfl | rfl | rfl
    · exact ⟨144 * y, by simp only [uV]; omega, ⟨12 * y, by simp only [uV]; omega⟩⟩
    · exact ⟨72 * y, by simp only [uV]; omega, ⟨6 * y, by simp only [uV]; omega⟩⟩
    · exact ⟨48 * y, by simp only [uV]; omega, ⟨4 * y, by simp only [uV]; omega⟩⟩
    · exact ⟨36 * y, by simp only [uV]; omega, ⟨3 * y, by simp only [uV]; omega⟩⟩
  | 2, _ =>
    have : o = 1 ∨ o = 2 ∨ o = 3 := by omega
    rcases this with rfl | rfl | rfl
    · exact ⟨12 * y, by simp only [uV]; omega, ⟨6 * y, by simp only [uV]; omega⟩⟩
    · exact ⟨6 * y, by simp only [uV]; omega, ⟨3 * y, by simp only [uV]; omega⟩⟩
    · exact ⟨4 * y, by simp only [uV]; omega, ⟨2 * y, by simp only [uV]; omega⟩⟩
  | 3, _ =>
    have : o = 1 ∨ o = 2 := by omega
    rcases this with rfl | rfl
    · exact ⟨2 * y, by simp only [uV]; omega, ⟨2 * y, by simp only [uV]; omega⟩⟩
    · exact ⟨y, by simp only [uV]; omega, ⟨y, by simp only [uV]; omega⟩⟩
  | 4, _ =>
    have : o = 1 := by omega
    subst this
    exact ⟨y, by simp only [uV]; omega, ⟨y, by simp only [uV]; omega⟩⟩
/-- The net's numbers are whole multiples, and at most 1. -/
structure NtOk (N : Nt) : Prop where
  L : N.L ≤ 4
  m : N.m ≤ 5
  C : ∀ l < N.L, uV 0 ∣ N.C l ∧ 0 ≤ N.C l ∧ N.C l ≤ uU
  dm : ∀ i < N.m, uV 0 ∣ N.dm i ∧ 0 ≤ N.dm i ∧ N.dm i ≤ uU
  has : ∀ i < N.m, ∃ l < N.L, N.on l i = true
section
variable {N : Nt} {fz S : Nat → Bool} {r q : Nat → Int} {lam : Int} {j : Nat}
theorem ld_nonneg {V : Int} (hF : Fill N V uU fz r) (l : Nat) : 0 ≤ ldF N fz r l := sI_nonneg fun i hi => by
  split
  · rename_i h
    simp only [Bool.and_eq_true] at h
    exact (hF.rt i hi h.1).1
  · exact Int.le_refl _
theorem ld_dvd {V : Int} (hF : Fill N V uU fz r) (l : Nat) : V ∣ ldF N fz r l := sI_dvd fun i hi => by
  split
  · rename_i h
    simp only [Bool.and_eq_true] at h
    exact (hF.rt i hi h.1).2.2
  · exact Int.dvd_zero _
theorem op_le (fz : Nat → Bool) (l : Nat) : opF N fz l ≤ nOpen N fz := sI_le fun i _ => by cases fz i <;> cases N.on l i <;> simp
theorem cand_ok (hN : NtOk N) (hF : Fill N (uV j) uU fz r) (hj : nOpen N fz + j ≤ 5) {l : Nat} (hl : l < N.L) (ho : 0 < opF N fz l) :
    ∃ q, q * opF N fz l = N.C l - ldF N fz r l ∧ uV (j + 1) ∣ q ∧ 0 ≤ q ∧ q ≤ uU := by
  have h1 := op_le (N := N) fz l
  obtain ⟨o, e⟩ : ∃ o : Nat, opF N fz l = o := ⟨(opF N fz l).toNat, by omega⟩
  obtain ⟨a, b, c⟩ := hN.C l hl
  obtain ⟨q, h2, h3⟩ := uV_div (j := j) (o := o) (by omega) (by omega) (x := N.C l - ldF N fz r l) (Int.dvd_sub (Int.dvd_trans (uV_dvd0 j) a) (ld_dvd hF l))
  have h4 := hF.cap l hl
  have h5 := ld_nonneg hF l
  rw [e] at ho ⊢
  have hq : 0 ≤ q := by
    rcases Int.lt_or_le q 0 with x | x
    · have := Int.mul_neg_of_neg_of_pos x ho
      omega
    · exact x
  refine ⟨q, h2.symm, h3, hq, ?_⟩
  have : q * 1 ≤ q * o := Int.mul_le_mul_of_nonneg_left (by omega) hq
  omega
theorem lev_of (hN : NtOk N) (hF : Fill N (uV j) uU fz r) (hj : nOpen N fz + j ≤ 5) (hq : ∀ l < N.L, 0 < opF N fz l → q l * opF N fz l = N.C l - ldF N fz r l)
    (h1 : ∀ l < N.L, 0 < opF N fz l → lam ≤ q l) (h2 : ∀ i < N.m, fz i = false → N.bd i = true → lam ≤ N.dm i)
    (h3 : (∃ l < N.L, 0 < opF N fz l ∧ lam = q l) ∨ ∃ i < N.m, fz i = false ∧ N.bd i = true ∧ lam = N.dm i)
    (hS : ∀ i < N.m, S i = true ↔ fz i = false ∧ ((N.bd i = true ∧ N.dm i = lam) ∨ ∃ l < N.L, N.on l i = true ∧ q l = lam)) :
    Lev N fz r lam S ∧ 0 ≤ lam ∧ lam ≤ uU ∧ uV (j + 1) ∣ lam ∧ ∃ i < N.m, S i = true := by
  refine ⟨⟨fun l hl ho => ?_, h2, fun i hi => ?_⟩, ?_⟩
  · rw [← hq l hl ho]
    exact Int.mul_le_mul_of_nonneg_right (h1 l hl ho) (Int.le_of_lt ho)
  · rw [hS i hi]
    constructor
    · rintro ⟨a, b | ⟨l, hl, ho, e⟩⟩
      · exact ⟨a, .inl b⟩
      · have hp := op_pos hi a ho
        exact ⟨a, .inr ⟨l, hl, ho, by rw [← hq l hl hp, e]⟩⟩
    · rintro ⟨a, b | ⟨l, hl, ho, e⟩⟩
      · exact ⟨a, .inl b⟩
      · have hp := op_pos hi a ho
        rw [← hq l hl hp] at e
        exact ⟨a, .inr ⟨l, hl, ho, (Int.eq_of_mul_eq_mul_right (by omega) e).symm⟩⟩
  · rcases h3 with ⟨l, hl, ho, rfl⟩ | ⟨i, hi, hf, hb, rfl⟩
    · obtain ⟨q', e, d, a, b⟩ := cand_ok hN hF hj hl ho
      have : q' = q l := by
        rw [← hq l hl ho] at e
        exact Int.eq_of_mul_eq_mul_right (by omega) e
      subst this
      refine ⟨a, b, d, ?_⟩
      have ho' := ho
      unfold opF at ho'
      obtain ⟨i, hi, hp⟩ := sI_pos (fun j _ => by split <;> omega) ho'
      split at hp
      · rename_i x
        simp only [Bool.and_eq_true, Bool.not_eq_true'] at x
        exact ⟨i, hi, (hS i hi).2 ⟨x.1, .inr ⟨l, hl, x.2, rfl⟩⟩⟩
      · omega
    · obtain ⟨a, b, c⟩ := hN.dm i hi
      exact ⟨b, c, Int.dvd_trans (uV_dvd0 _) a, i, hi, (hS i hi).2 ⟨hf, .inl ⟨hb, rfl⟩⟩⟩
end
end Go.Proofs.Ytbdaehcngmhhcaa
