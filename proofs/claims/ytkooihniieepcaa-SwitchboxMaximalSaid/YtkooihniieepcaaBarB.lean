/-
  The model of a crossbar: rounds, what they leave, when a matching is maximal. Plain Lean: no program in sight.
-/
import Derived.Test.YtkooihniieepcaaBarA
namespace Go.Proofs.Ytkooihniieepcaa.Bar
set_option linter.unusedVariables false

def upd {α : Type} (f : Nat → α) (k : Nat) (v : α) : Nat → α := fun j => if j = k then v else f j
theorem upd_same {α : Type} (f : Nat → α) (k : Nat) (v : α) : upd f k v k = v := by simp [upd]
theorem upd_ne {α : Type} (f : Nat → α) {k j : Nat} (v : α) (h : j ≠ k) : upd f k v j = f j := by simp [upd, h]
theorem range_upd {α : Type} (f : Nat → α) {n k : Nat} (v : α) (h : k < n) : (List.range n).map (upd f k v) = ((List.range n).map f).set k v := by
  apply List.ext_getElem?
  intro i
  rw [List.getElem?_set]
  simp only [List.length_map, List.length_range, List.getElem?_map, h, if_true]
  by_cases hi : i < n
  · rw [List.getElem?_range hi]
    by_cases e : k = i
    · subst e; simp [upd]
    · simp [e, upd, Ne.symm e]
  · rw [List.getElem?_eq_none (by simpa using hi)]
    have : ¬ k = i := by omega
    simp [this]

structure St where
  m : Nat → Int
  t : Nat → Bool
  g : Nat → Nat
  a : Nat → Nat

/-- The input that output k grants. -/
def grv (req : Nat → Nat → Bool) (n : Nat) (s : St) (k : Nat) : Int := if s.t k then -1 else fst (fun i => decide (s.m i < 0) && req i k) n (s.g k)
/-- The output that input i accepts. -/
def kkv (n : Nat) (gr : Nat → Int) (a : Nat → Nat) (i : Nat) : Int := fst (fun k => gr k == (i : Int)) n (a i)
def accS (n : Nat) (adv : Bool) (gr : Nat → Int) (s : St) (i : Nat) : St :=
  if kkv n gr s.a i < 0 then s
  else ⟨upd s.m i (kkv n gr s.a i), upd s.t (kkv n gr s.a i).toNat true, if adv then upd s.g (kkv n gr s.a i).toNat ((i + 1) % n) else s.g, if adv then upd s.a i (((kkv n gr s.a i).toNat + 1) % n) else s.a⟩
def accN (n : Nat) (adv : Bool) (gr : Nat → Int) (s : St) : Nat → St
  | 0 => s
  | i + 1 => accS n adv gr (accN n adv gr s i) i
def round (req : Nat → Nat → Bool) (n : Nat) (adv : Bool) (s : St) : St := accN n adv (grv req n s) s n
def rounds (req : Nat → Nat → Bool) (n : Nat) (s : St) : Nat → St
  | 0 => s
  | r + 1 => round req n (r == 0) (rounds req n s r)
def start (g a : Nat → Nat) : St := ⟨fun _ => -1, fun _ => false, g, a⟩

structure Acc (n : Nat) (adv : Bool) (gr : Nat → Int) (s : St) (j : Nat) (s' : St) : Prop where
  m : ∀ x, s'.m x = if x < j ∧ 0 ≤ kkv n gr s.a x then kkv n gr s.a x else s.m x
  t : ∀ y, s'.t y = true ↔ s.t y = true ∨ ∃ x, x < j ∧ kkv n gr s.a x = (y : Int)
  a : ∀ x, s'.a x = if adv = true ∧ x < j ∧ 0 ≤ kkv n gr s.a x then ((kkv n gr s.a x).toNat + 1) % n else s.a x
  g1 : ∀ x y : Nat, x < j → kkv n gr s.a x = (y : Int) → s'.g y = if adv = true then (x + 1) % n else s.g y
  g0 : ∀ y : Nat, (∀ x, x < j → kkv n gr s.a x ≠ (y : Int)) → s'.g y = s.g y

theorem kk_gr {n : Nat} {gr : Nat → Int} {a : Nat → Nat} {i y : Nat} (ha : a i < n) (h : kkv n gr a i = (y : Int)) : y < n ∧ gr y = (i : Int) ∧ ∀ q < n, gr q = (i : Int) → dist n (a i) y ≤ dist n (a i) q := by
  rcases fst_cases (fun k => gr k == (i : Int)) ha with ⟨h1, _⟩ | ⟨x, hx, h1, h2, h3⟩
  · have h1 : kkv n gr a i = -1 := h1
    omega
  · have h1 : kkv n gr a i = _ := h1
    obtain rfl : y = x := by omega
    exact ⟨hx, by simpa using h2, fun q hq e => h3 q hq (by simpa using e)⟩
theorem kk_neg {n : Nat} {gr : Nat → Int} {a : Nat → Nat} {i : Nat} (ha : a i < n) (h : kkv n gr a i < 0) : ∀ q < n, gr q ≠ (i : Int) := by
  rcases fst_cases (fun k => gr k == (i : Int)) ha with ⟨_, h1⟩ | ⟨x, hx, h1, h2, h3⟩
  · intro q hq e
    have := h1 q hq
    simp [e] at this
  · have h1 : kkv n gr a i = _ := h1
    omega

theorem accN_spec (n : Nat) (adv : Bool) (gr : Nat → Int) (s : St) (ha : ∀ i < n, s.a i < n) : ∀ j ≤ n, Acc n adv gr s j (accN n adv gr s j)
  | 0, _ => ⟨fun x => by simp [accN], fun y => by simp [accN], fun x => by simp [accN], fun x y h => by omega, fun y _ => rfl⟩
  | j + 1, hj => by
    have ih := accN_spec n adv gr s ha j (by omega)
    have hk : kkv n gr (accN n adv gr s j).a j = kkv n gr s.a j := by
      show fst _ n _ = fst _ n _
      rw [ih.a j]; simp
    have hg : ∀ (x y : Nat), x < j + 1 → kkv n gr s.a x = (y : Int) → gr y = x := fun x y hx e => (kk_gr (ha x (by omega)) e).2.1
    by_cases hneg : kkv n gr s.a j < 0
    · have e : accN n adv gr s (j + 1) = accN n adv gr s j := by
        show accS n adv gr (accN n adv gr s j) j = _
        unfold accS; rw [hk, if_pos hneg]
      rw [e]
      refine ⟨fun x => ?_, fun y => ?_, fun x => ?_, fun x y hx hy => ?_, fun y hy => ?_⟩
      · rw [ih.m x]
        by_cases hx : x = j
        · subst hx
          rw [if_neg (by omega), if_neg (by omega)]
        · have : (x < j + 1) = (x < j) := by simp; omega
          simp only [this]
      · rw [ih.t y]
        constructor
        · rintro (h | ⟨x, h1, h2⟩)
          · exact .inl h
          · exact .inr ⟨x, by omega, h2⟩
        · rintro (h | ⟨x, h1, h2⟩)
          · exact .inl h
          · by_cases hx : x = j
            · subst hx; omega
            · exact .inr ⟨x, by omega, h2⟩
      · rw [ih.a x]
        by_cases hx : x = j
        · subst hx
          rw [if_neg (by omega), if_neg (by omega)]
        · have : (x < j + 1) = (x < j) := by simp; omega
          simp only [this]
      · by_cases hx' : x = j
        · subst hx'; omega
        · exact ih.g1 x y (by omega) hy
      · exact ih.g0 y fun x hx => hy x (by omega)
    · obtain ⟨c, hc⟩ := Int.eq_ofNat_of_zero_le (show 0 ≤ kkv n gr s.a j by omega)
      have e : accN n adv gr s (j + 1) = ⟨upd (accN n adv gr s j).m j c, upd (accN n adv gr s j).t c true, if adv then upd (accN n adv gr s j).g c ((j + 1) % n) else (accN n adv gr s j).g, if adv then upd (accN n adv gr s j).a j ((c + 1) % n) else (accN n adv gr s j).a⟩ := by
        show accS n adv gr (accN n adv gr s j) j = _
        unfold accS; rw [hk, if_neg hneg, hc]; rfl
      rw [e]
      have hcg := hg j c (by omega) hc
      refine ⟨fun x => ?_, fun y => ?_, fun x => ?_, fun x y hx hy => ?_, fun y hy => ?_⟩
      · by_cases hx : x = j
        · subst hx
          show upd _ x _ x = _
          rw [upd_same, if_pos ⟨by omega, by omega⟩, hc]
        · show upd _ j _ x = _
          rw [upd_ne _ _ hx, ih.m x]
          have : (x < j + 1) = (x < j) := by simp; omega
          simp only [this]
      · show upd _ c _ y = true ↔ _
        by_cases hy : y = c
        · subst hy
          rw [upd_same]
          exact ⟨fun _ => .inr ⟨j, by omega, hc⟩, fun _ => rfl⟩
        · rw [upd_ne _ _ hy, ih.t y]
          constructor
          · rintro (h | ⟨x, h1, h2⟩)
            · exact .inl h
            · exact .inr ⟨x, by omega, h2⟩
          · rintro (h | ⟨x, h1, h2⟩)
            · exact .inl h
            · by_cases hx : x = j
              · subst hx; omega
              · exact .inr ⟨x, by omega, h2⟩
      · cases adv with
        | false => show (accN n false gr s j).a x = _; rw [ih.a x]; simp
        | true =>
          show upd (accN n true gr s j).a j _ x = _
          by_cases hx : x = j
          · subst hx
            rw [upd_same, if_pos ⟨rfl, by omega, by omega⟩, hc]; rfl
          · rw [upd_ne _ _ hx, ih.a x]
            have : (x < j + 1) = (x < j) := by simp; omega
            simp only [this]
      · cases adv with
        | false =>
          show (accN n false gr s j).g y = _
          by_cases hx' : x = j
          · subst hx'
            obtain rfl : y = c := by omega
            rw [ih.g0 y fun x' hx' e' => by have := hg x' y (by omega) e'; omega]; simp
          · rw [ih.g1 x y (by omega) hy]
        | true =>
          show upd (accN n true gr s j).g c _ y = _
          by_cases hx' : x = j
          · subst hx'
            obtain rfl : y = c := by omega
            rw [upd_same]; simp
          · have hyc : y ≠ c := fun e' => by
              have := hg x y hx hy
              rw [e', hcg] at this; omega
            rw [upd_ne _ _ hyc, ih.g1 x y (by omega) hy]
      · have hyc : y ≠ c := fun e' => hy j (by omega) (by rw [hc, e'])
        cases adv with
        | false => exact ih.g0 y fun x hx => hy x (by omega)
        | true =>
          show upd (accN n true gr s j).g c _ y = _
          rw [upd_ne _ _ hyc]
          exact ih.g0 y fun x hx => hy x (by omega)

/-- A state of a matching: pointers in range, and 'taken' tells which outputs are matched. -/
structure Ok (req : Nat → Nat → Bool) (n : Nat) (s : St) : Prop where
  g : ∀ k < n, s.g k < n
  a : ∀ i < n, s.a i < n
  m : ∀ i < n, s.m i = -1 ∨ ∃ k, k < n ∧ s.m i = (k : Int) ∧ req i k = true
  t : ∀ k < n, s.t k = true ↔ ∃ i, i < n ∧ s.m i = (k : Int)
  inj : ∀ i < n, ∀ j < n, ∀ k : Nat, s.m i = (k : Int) → s.m j = (k : Int) → i = j

theorem start_ok {req : Nat → Nat → Bool} {n : Nat} {g a : Nat → Nat} (hg : ∀ k < n, g k < n) (ha : ∀ i < n, a i < n) : Ok req n (start g a) :=
  ⟨hg, ha, fun _ _ => .inl rfl, fun k _ => ⟨fun h => by simp [start] at h, fun ⟨i, _, h⟩ => by simp [start] at h⟩, fun i _ j _ k h => by simp [start] at h⟩

/-- What an output grants. -/
theorem gr_cases {req : Nat → Nat → Bool} {n : Nat} {s : St} (h : Ok req n s) {k : Nat} (hk : k < n) :
    (grv req n s k = -1 ∧ (s.t k = true ∨ ∀ i < n, s.m i < 0 → req i k = false)) ∨
    ∃ i, i < n ∧ grv req n s k = (i : Int) ∧ s.t k = false ∧ s.m i < 0 ∧ req i k = true ∧ ∀ j < n, s.m j < 0 → req j k = true → dist n (s.g k) i ≤ dist n (s.g k) j := by
  unfold grv
  by_cases ht : s.t k = true
  · exact .inl ⟨by simp [ht], .inl ht⟩
  · have ht' : s.t k = false := by simpa using ht
    simp only [ht']
    rcases fst_cases (fun i => decide (s.m i < 0) && req i k) (h.g k hk) with ⟨h1, h2⟩ | ⟨i, hi, h1, h2, h3⟩
    · refine .inl ⟨h1, .inr fun i hi hm => ?_⟩
      have := h2 i hi
      simpa [hm] using this
    · have h2' : s.m i < 0 ∧ req i k = true := by simpa using h2
      exact .inr ⟨i, hi, h1, trivial, h2'.1, h2'.2, fun j hj hm hr => h3 j hj (by simp [hm, hr])⟩

theorem round_acc {req : Nat → Nat → Bool} {n : Nat} {s : St} (h : Ok req n s) (adv : Bool) : Acc n adv (grv req n s) s n (round req n adv s) := accN_spec n adv _ s h.a n (Nat.le_refl _)

/-- An input that accepts was not matched, and its output was free. -/
theorem kk_use {req : Nat → Nat → Bool} {n : Nat} {s : St} (h : Ok req n s) {i y : Nat} (hi : i < n) (e : kkv n (grv req n s) s.a i = (y : Int)) :
    y < n ∧ s.m i < 0 ∧ s.t y = false ∧ req i y = true ∧ grv req n s y = (i : Int) := by
  obtain ⟨h1, h2, _⟩ := kk_gr (h.a i hi) e
  rcases gr_cases h h1 with ⟨h3, _⟩ | ⟨x, hx, h3, h4, h5, h6, _⟩
  · omega
  · obtain rfl : i = x := by omega
    exact ⟨h1, h5, h4, h6, h3⟩

theorem round_ok {req : Nat → Nat → Bool} {n : Nat} {s : St} (h : Ok req n s) (adv : Bool) : Ok req n (round req n adv s) := by
  have A := round_acc h adv
  have hm : ∀ i < n, (∃ y : Nat, kkv n (grv req n s) s.a i = (y : Int) ∧ (round req n adv s).m i = (y : Int)) ∨ (round req n adv s).m i = s.m i := by
    intro i hi
    rw [A.m i]
    by_cases h0 : 0 ≤ kkv n (grv req n s) s.a i
    · rw [if_pos ⟨hi, h0⟩]
      exact .inl ⟨(kkv n (grv req n s) s.a i).toNat, by omega, by omega⟩
    · rw [if_neg (by omega)]; exact .inr rfl
  refine ⟨fun k hk => ?_, fun i hi => ?_, fun i hi => ?_, fun k hk => ?_, fun i hi j hj k h1 h2 => ?_⟩
  · by_cases hx : ∃ x, x < n ∧ kkv n (grv req n s) s.a x = (k : Int)
    · obtain ⟨x, hx, e⟩ := hx
      rw [A.g1 x k hx e]
      split
      · exact Nat.mod_lt _ (by omega)
      · exact h.g k hk
    · rw [A.g0 k fun x hx' e => hx ⟨x, hx', e⟩]
      exact h.g k hk
  · rw [A.a i]
    split
    · exact Nat.mod_lt _ (by omega)
    · exact h.a i hi
  · rcases hm i hi with ⟨y, e, e'⟩ | e
    · exact .inr ⟨y, (kk_use h hi e).1, e', (kk_use h hi e).2.2.2.1⟩
    · rw [e]; exact h.m i hi
  · rw [A.t k, h.t k hk]
    constructor
    · rintro (⟨i, hi, e⟩ | ⟨x, hx, e⟩)
      · refine ⟨i, hi, ?_⟩
        rcases hm i hi with ⟨y, e1, e2⟩ | e1
        · have := (kk_use h hi e1).2.1; omega
        · rw [e1, e]
      · rcases hm x hx with ⟨y, e1, e2⟩ | e1
        · exact ⟨x, hx, by omega⟩
        · have h0 := A.m x
          rw [if_pos ⟨hx, by omega⟩] at h0
          exact ⟨x, hx, by omega⟩
    · rintro ⟨i, hi, e⟩
      rcases hm i hi with ⟨y, e1, e2⟩ | e1
      · exact .inr ⟨i, hi, by omega⟩
      · exact .inl ⟨i, hi, by rw [← e1, e]⟩
  · rcases hm i hi with ⟨y, e1, e2⟩ | e1
    · rcases hm j hj with ⟨z, e3, e4⟩ | e3
      · have hy := (kk_use h hi e1).2.2.2.2
        have hz := (kk_use h hj e3).2.2.2.2
        obtain rfl : y = z := by omega
        omega
      · have hy := (kk_use h hi e1).2.2.1
        have hkn := (kk_use h hi e1).1
        have : s.t y = true := (h.t y hkn).2 ⟨j, hj, by omega⟩
        rw [hy] at this; exact absurd this (by simp)
    · rcases hm j hj with ⟨z, e3, e4⟩ | e3
      · have hz := (kk_use h hj e3).2.2.1
        have hkn := (kk_use h hj e3).1
        have : s.t z = true := (h.t z hkn).2 ⟨i, hi, by omega⟩
        rw [hz] at this; exact absurd this (by simp)
      · exact h.inj i hi j hj k (by omega) (by omega)

/-- What is matched stays matched. -/
theorem round_keeps {req : Nat → Nat → Bool} {n : Nat} {s : St} (h : Ok req n s) (adv : Bool) {i : Nat} (hi : i < n) (hm : 0 ≤ s.m i) : (round req n adv s).m i = s.m i := by
  rw [(round_acc h adv).m i]
  by_cases h0 : 0 ≤ kkv n (grv req n s) s.a i
  · have := (kk_use (y := (kkv n (grv req n s) s.a i).toNat) h hi (by omega)).2.1; omega
  · rw [if_neg (by omega)]
/-- Nothing more can be matched. -/
def Maxi (req : Nat → Nat → Bool) (n : Nat) (s : St) : Prop := ∀ i < n, ∀ k < n, req i k = true → 0 ≤ s.m i ∨ s.t k = true
theorem round_max {req : Nat → Nat → Bool} {n : Nat} {s : St} (h : Ok req n s) (adv : Bool) (hx : Maxi req n s) : ∀ i < n, (round req n adv s).m i = s.m i := by
  intro i hi
  rw [(round_acc h adv).m i]
  by_cases h0 : 0 ≤ kkv n (grv req n s) s.a i
  · have u := kk_use (y := (kkv n (grv req n s) s.a i).toNat) h hi (by omega)
    rcases hx i hi _ u.1 u.2.2.2.1 with h1 | h1
    · have := u.2.1; omega
    · rw [u.2.2.1] at h1; exact absurd h1 (by simp)
  · rw [if_neg (by omega)]
theorem round_more {req : Nat → Nat → Bool} {n : Nat} {s : St} (h : Ok req n s) (adv : Bool) (hx : ¬ Maxi req n s) : ∃ i, i < n ∧ s.m i < 0 ∧ 0 ≤ (round req n adv s).m i := by
  have hx' : ∃ i, i < n ∧ ∃ k, k < n ∧ req i k = true ∧ s.m i < 0 ∧ s.t k = false := by
    refine Classical.byContradiction fun hn => hx fun i hi k hk hr => ?_
    by_cases hm : 0 ≤ s.m i
    · exact .inl hm
    · refine .inr (Classical.byContradiction fun ht => hn ⟨i, hi, k, hk, hr, by omega, by simpa using ht⟩)
  obtain ⟨i, hi, k, hk, hr, hm, ht⟩ := hx'
  rcases gr_cases h hk with ⟨_, h1 | h1⟩ | ⟨x, hx, h3, h4, h5, h6, _⟩
  · rw [ht] at h1; exact absurd h1 (by simp)
  · rw [h1 i hi hm] at hr; exact absurd hr (by simp)
  · refine ⟨x, hx, h5, ?_⟩
    rw [(round_acc h adv).m x]
    by_cases h0 : 0 ≤ kkv n (grv req n s) s.a x
    · rw [if_pos ⟨hx, h0⟩]; exact h0
    · exact absurd h3 (kk_neg (h.a x hx) (by omega) k hk)

theorem rounds_ok {req : Nat → Nat → Bool} {n : Nat} {s : St} (h : Ok req n s) : ∀ r, Ok req n (rounds req n s r)
  | 0 => h
  | r + 1 => round_ok (rounds_ok h r) _

/-- How many numbers below n satisfy p. -/
def cnt (n : Nat) (p : Nat → Bool) : Nat := ((List.range n).filter p).length
theorem cnt_mem {n : Nat} {p : Nat → Bool} {x : Nat} : x ∈ (List.range n).filter p ↔ x < n ∧ p x = true := by simp [List.mem_filter]
theorem cnt_nodup (n : Nat) (p : Nat → Bool) : ((List.range n).filter p).Nodup := List.nodup_range.sublist List.filter_sublist
theorem cnt_le (n : Nat) (p : Nat → Bool) : cnt n p ≤ n := by
  have := List.length_filter_le p (List.range n)
  simpa [cnt] using this
theorem cnt_mono {n : Nat} {p q : Nat → Bool} (h : ∀ x < n, p x = true → q x = true) : cnt n p ≤ cnt n q :=
  sub_len _ _ (cnt_nodup n p) fun x hx => cnt_mem.2 ⟨(cnt_mem.1 hx).1, h x (cnt_mem.1 hx).1 (cnt_mem.1 hx).2⟩
theorem cnt_lt {n : Nat} {p q : Nat → Bool} (h : ∀ x < n, p x = true → q x = true) {y : Nat} (hy : y < n) (h1 : p y = false) (h2 : q y = true) : cnt n p < cnt n q := by
  have := sub_len (y :: (List.range n).filter p) ((List.range n).filter q) (List.nodup_cons.2 ⟨fun hm => by have := (cnt_mem.1 hm).2; rw [h1] at this; simp at this, cnt_nodup n p⟩) (fun x hx => by
    rcases List.mem_cons.1 hx with rfl | hx
    · exact cnt_mem.2 ⟨hy, h2⟩
    · exact cnt_mem.2 ⟨(cnt_mem.1 hx).1, h x (cnt_mem.1 hx).1 (cnt_mem.1 hx).2⟩)
  simp at this; unfold cnt; omega
theorem cnt_full {n : Nat} {p : Nat → Bool} (h : n ≤ cnt n p) : ∀ x < n, p x = true := by
  intro x hx
  refine Classical.byContradiction fun hp => ?_
  have := cnt_lt (p := p) (q := fun _ => true) (fun _ _ _ => rfl) hx (by simpa using hp) rfl
  have := cnt_le n (fun _ => true)
  omega

def msz (n : Nat) (s : St) : Nat := cnt n fun i => decide (0 ≤ s.m i)
theorem round_size {req : Nat → Nat → Bool} {n : Nat} {s : St} (h : Ok req n s) (adv : Bool) : Maxi req n s ∨ msz n s < msz n (round req n adv s) := by
  refine Classical.byCases .inl fun hx => .inr ?_
  obtain ⟨i, hi, h1, h2⟩ := round_more h adv hx
  exact cnt_lt (fun x hx hp => by
    have hp : 0 ≤ s.m x := by simpa using hp
    rw [round_keeps h adv hx hp]; simpa using hp) hi (by simpa using h1) (by simpa using h2)
theorem round_maxi {req : Nat → Nat → Bool} {n : Nat} {s : St} (h : Ok req n s) (adv : Bool) (hx : Maxi req n s) : Maxi req n (round req n adv s) := by
  intro i hi k hk hr
  rcases hx i hi k hk hr with h1 | h1
  · exact .inl (by rw [round_keeps h adv hi h1]; exact h1)
  · exact .inr (((round_acc h adv).t k).2 (.inl h1))
theorem rounds_size {req : Nat → Nat → Bool} {n : Nat} {s : St} (h : Ok req n s) : ∀ r, Maxi req n (rounds req n s r) ∨ r ≤ msz n (rounds req n s r)
  | 0 => .inr (Nat.zero_le _)
  | r + 1 => by
    have ho := rounds_ok h r
    rcases rounds_size h r with h1 | h1
    · exact .inl (round_maxi ho _ h1)
    · rcases round_size ho (r == 0) with h2 | h2
      · exact .inl (round_maxi ho _ h2)
      · exact .inr (by show r + 1 ≤ msz n (round req n (r == 0) (rounds req n s r)); omega)
/-- n rounds yield a maximal matching. -/
theorem rounds_maxi {req : Nat → Nat → Bool} {n : Nat} {s : St} (h : Ok req n s) : Maxi req n (rounds req n s n) := by
  rcases rounds_size h n with h1 | h1
  · exact h1
  · intro i hi k _ _
    have := cnt_full h1 i hi
    exact .inl (by simpa using this)
end Go.Proofs.Ytkooihniieepcaa.Bar
